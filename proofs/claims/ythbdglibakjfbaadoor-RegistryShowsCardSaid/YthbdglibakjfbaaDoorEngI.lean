/- The writing operations on a walk's values agree with Go's. No condition. -/
import Derived.Test.YthbdglibakjfbaaDoorEngH
set_option linter.unusedSectionVars false
namespace Go.Eng
open Go.RowKit
variable [Inhabited Lo]
section
variable {P : Program} {c : Cx} {Z Z' : Nat → Prop} {M : Nat → Option Nat} {s : St} {a : Act} {w w' : World}

theorem _root_.Go.RowKit.Below.grow_none {w w' : World} (h : Below w.heap.size w w') : w.grownBy w' none := ⟨h.os, h.tape, h.output, h.size, fun b hb _ => h.block b hb⟩
theorem below_alloc (w : World) (o : Obj) : Below w.heap.size w (w.alloc o) := (Below.refl _ _).alloc (Nat.le_refl _) o
/-- a new object in a new block -/
theorem Rep.newOb (R : Rep c Z M s a w) (n : Nat) (hfx : n < 2000000) {cells : Array Value} {e : TypeId} {o : Ob}
    (ho : ∀ M', M' n = some w.heap.size → Stays Z Z M M' w (w.alloc (.cells cells e)) (some n) → OR Z M' (w.alloc (.cells cells e)) n o) :
    ∃ M', (∀ m, m ≠ n → M' m = M m) ∧ M' n = some w.heap.size ∧ Rep c Z M' (s.renew n o) a (w.alloc (.cells cells e)) := by
  have hM : ∀ m, m ≠ n → (fun m => if m = n then some w.heap.size else M m) m = M m := fun m hm => by simp [hm]
  have g := (below_alloc w (.cells cells e)).grow_none
  refine ⟨fun m => if m = n then some w.heap.size else M m, hM, by simp, R.renew n hfx (row := none) g (by simp) hM (ho _ (by simp) (R.stays_renew g (by simp) hM)) fun b hb => ?_⟩
  simp at hb
  exact .inr (by omega)
theorem not_zlt (R : Rep c Z M s a w) : ¬ Z w.heap.size := fun h => by have := R.zlt _ h; omega

theorem AR.ptr_ {n off b : Nat} (h : M n = some b) : AR Z M w (.ptr n off) (.pointer (some ⟨b, off, none⟩)) := by unfold AR; exact ⟨b, h, rfl⟩

/-- the values of a literal, one behind the other -/
theorem fill_rows {es : Nat} : ∀ (xs : List Value) (k : Nat) (cs : Array Value), (∀ x ∈ xs, x.cells.size = es) → (k + xs.length) * es ≤ cs.size →
    ∃ ys, Instr.fill (fun i => some (i * es, es)) cs ((xs.zipIdx k).map fun p => (p.2, p.1)) = some ys ∧ ys.size = cs.size ∧
      (∀ (i : Nat) x, xs[i]? = some x → ∀ j, j < es → ys[(k + i) * es + j]? = x.cells[j]?) ∧ ∀ q, q < k * es → ys[q]? = cs[q]?
  | [], k, cs, _, _ => ⟨cs, rfl, rfl, fun i x h => by simp at h, fun _ _ => rfl⟩
  | x :: xs, k, cs, hx, hl => by
    have hxs : x.cells.size = es := hx x (by simp)
    have hl1 : k * es + es ≤ cs.size := by
      have : (k + 1) * es ≤ (k + (x :: xs).length) * es := Nat.mul_le_mul_right _ (by simp)
      rw [Nat.add_mul, Nat.one_mul] at this
      omega
    have hf := fold_spl x.cells.toList 0 cs (k * es) (by simp; omega)
    rw [Nat.add_zero] at hf
    generalize hcs' : (x.cells.toList.zipIdx 0).foldl (fun (cs : Array Value) (p : Value × Nat) => cs.setIfInBounds (k * es + p.2) p.1) cs = cs' at hf
    have hfold : (x.cells.zipIdx).foldl (fun (cs : Array Value) (p : Value × Nat) => cs.setIfInBounds (k * es + p.2) p.1) cs = cs' := by
      rw [← hcs', ← Array.foldl_toList, Array.toList_zipIdx]
    have hsz : cs'.size = cs.size := by
      rw [← Array.length_toList, hf]
      simp only [List.length_append, List.length_take, List.length_drop, Array.length_toList]
      omega
    have hget : ∀ q, cs'[q]? = if q < k * es then cs[q]? else if q < k * es + es then x.cells[q - k * es]? else cs[q]? := by
      intro q
      have : cs'[q]? = cs'.toList[q]? := by simp
      rw [this, hf]
      have e1 : min (k * es) cs.size = k * es := by omega
      simp only [List.append_assoc, List.getElem?_append, List.length_take, List.getElem?_take, List.getElem?_drop, Array.length_toList, e1, hxs]
      by_cases h1 : q < k * es
      · simp [h1]
      · rw [if_neg h1, if_neg h1]
        by_cases h2 : q < k * es + es
        · rw [if_pos (by omega), if_pos h2]; simp
        · rw [if_neg (by omega), if_neg h2, show k * es + es + (q - k * es - es) = q from by omega]; simp
    obtain ⟨ys, h1, h2, h3, h4⟩ := fill_rows xs (k + 1) cs' (fun y hy => hx y (by simp [hy])) (by rw [hsz]; simp at hl; rw [show k + 1 + xs.length = k + (xs.length + 1) from by omega]; exact hl)
    refine ⟨ys, ?_, h2.trans hsz, ?_, fun q hq => ?_⟩
    · simp only [List.zipIdx_cons, List.map_cons]
      unfold Instr.fill
      simp only
      rw [if_neg (by simp [hxs]; omega), hfold]
      exact h1
    · intro i y hy j hj
      cases i with
      | zero =>
        simp at hy; subst hy
        rw [Nat.add_zero, h4 (k * es + j) (by rw [Nat.add_mul]; omega), hget, if_neg (by omega), if_pos (by omega)]
        congr 1; omega
      | succ i =>
        have := h3 i y (by simpa using hy) j hj
        rwa [show k + 1 + i = k + (i + 1) from by omega] at this
    · rw [h4 q (by rw [Nat.add_mul]; omega), hget, if_pos hq]

theorem DRt.len : ∀ {ds : List D} {xs : List Value}, DRt Z w ds xs → xs.length = ds.length
  | [], xs, h => by unfold DRt at h; subst h; rfl
  | d :: ds, xs, h => by
    unfold DRt at h
    obtain ⟨x, xs', rfl, _, h⟩ := h
    simp [DRt.len h]
theorem DRt.get : ∀ {ds : List D} {xs : List Value}, DRt Z w ds xs → ∀ i, i < ds.length → ∃ x, xs[i]? = some x ∧ DR Z w (ds.getD i default) x
  | [], xs, _, i, hi => by simp at hi
  | d :: ds, xs, h, 0, hi => by
    unfold DRt at h
    obtain ⟨x, xs', rfl, h1, _⟩ := h
    exact ⟨x, rfl, by simpa using h1⟩
  | d :: ds, xs, h, i + 1, hi => by
    unfold DRt at h
    obtain ⟨x, xs', rfl, _, h⟩ := h
    simpa using DRt.get h i (by simpa using hi)
theorem allLen_get {es : Nat} : ∀ {ds : List D}, allLen es ds → ∀ i, i < ds.length → (ds.getD i default).cells.length = es
  | [], _, i, hi => by simp at hi
  | d :: ds, h, 0, _ => by unfold allLen at h; simpa using h.1
  | d :: ds, h, i + 1, hi => by
    unfold allLen at h
    simpa using allLen_get h.2 i (by simpa using hi)
theorem allLen_vals {es : Nat} : ∀ {ds : List D} {xs : List Value}, allLen es ds → DRt Z w ds xs → ∀ x ∈ xs, x.cells.size = es
  | [], xs, _, h, x, hx => by unfold DRt at h; subst h; simp at hx
  | d :: ds, xs, hl, h, x, hx => by
    unfold DRt at h
    unfold allLen at hl
    obtain ⟨y, xs', rfl, h1, h2⟩ := h
    rcases List.mem_cons.1 hx with rfl | hx
    · have := DRs.len _ _ h1.cells
      rw [← hl.1, ← this]; simp
    · exact allLen_vals hl.2 h2 x hx

/-- a literal that nobody writes -/
theorem lit_sound (R : Rep c Z M s a w) {es : Nat} {ds : List D} {xs : List Value} (hd : DRt Z w ds xs) (hl : allLen es ds) (cs : Array Value) (hcs : cs.size = xs.length * es) {e : TypeId} :
    ∃ ys Z', Instr.fill (fun i => some (i * es, es)) cs ((xs.zipIdx 0).map fun p => (p.2, p.1)) = some ys ∧ (∀ b, Z b → Z' b) ∧ Rep c Z' M s a (w.alloc (.cells ys e)) ∧
      (xs.length ≤ maxLen → DR Z' (w.alloc (.cells ys e)) (.lst es ds) (.slice (some ⟨w.heap.size, 0, none⟩) xs.length xs.length)) := by
  obtain ⟨ys, h1, h2, h3, _⟩ := fill_rows xs 0 cs (allLen_vals hl hd) (by rw [hcs]; simp)
  have hb := below_alloc w (.cells ys e)
  have R1 := R.grow hb.grow_none
  have hlt : w.heap.size < (w.alloc (.cells ys e)).heap.size := by simp
  refine ⟨ys, fun b => Z b ∨ b = w.heap.size, h1, fun b h => .inl h, R1.zmore (fun b h => .inl h) ?_ ?_ ?_, fun hm => ?_⟩
  · rintro b (h | rfl)
    · exact .inl h
    · exact .inr R.fr.size
  · rintro b (h | rfl)
    · exact R1.zlt b h
    · exact hlt
  · rintro n b ⟨o, ho, hlv⟩ hMn (h | rfl)
    · exact ((R1.ob n o ho).blk hlv hMn).1 h
    · have := ((R.ob n o ho).blk hlv hMn).2
      omega
  · have hlen := hd.len
    unfold DR
    refine ⟨_, _, by rw [hlen], by omega, hm, fun _ => ⟨w.heap.size, 0, rfl, .inr rfl, DRrow.of _ _ fun i hi => ?_⟩⟩
    obtain ⟨x, hx, hdx⟩ := hd.get i hi
    have hxs : x.cells.size = es := allLen_vals hl hd x (List.mem_of_getElem? hx)
    refine ⟨x, ⟨hxs, fun j hj => ?_⟩, DR.keep ⟨fun b h => .inl h, fun b o hz => hb.cell (p := ⟨b, o, none⟩) (R.zlt b hz)⟩ _ _ hdx⟩
    have := h3 i x hx j hj
    rw [Nat.zero_add] at this
    rw [Nat.zero_add, cell_of_row (w.alloc (.cells ys e)) w.heap.size (i * es + j) ys e (0, 0) (heap_alloc_new w _)]
    exact this
end
end Go.Eng

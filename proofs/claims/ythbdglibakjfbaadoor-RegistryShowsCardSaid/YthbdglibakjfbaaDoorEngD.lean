/- The reading operations on a walk's values agree with Go's ('tk_sound'). No condition. -/
import Derived.Test.YthbdglibakjfbaaDoorEngC
set_option linter.unusedSectionVars false
namespace Go.Eng
open Go.RowKit
variable [Inhabited Lo]
theorem add_at (b off lo : Nat) : (⟨b, off, none⟩ : Addr).add lo = ⟨b, off + lo, none⟩ := by unfold Addr.add; split <;> simp_all
section
variable {P : Program} {c : Cx} {Z : Nat → Prop} {M : Nat → Option Nat} {s : St} {a : Act} {w w' : World}

theorem run_loadAt_one {t : TypeId} {ad : Addr} {x : Value} (ht : partOf P t = some none) (hc : w.cell? ad = some x) : (Instr.loadAt t (.pointer (some ad))).run P w = .ok x w := by
  unfold partOf at ht
  cases hd : P.underlying t with
  | none => simp [hd] at ht
  | some d =>
    have hag : (isAgg t).run P w = .ok false w := by
      cases d <;> simp_all [isAggT, isAgg, run_underlying hd]
    simp [Instr.loadAt, Instr.sureAddr, loadVar, hag, hc]
theorem run_loadAt_many {t : TypeId} {b o n : Nat} {xs : List Value} (ht : partOf P t = some (some n)) (hn : sizeT P t = some n) (hl : xs.length = n) (hc : ∀ j, j < n → w.cell? ⟨b, o + j, none⟩ = xs[j]?) :
    (Instr.loadAt t (.pointer (some ⟨b, o, none⟩))).run P w = .ok (.agg xs.toArray) w := by
  unfold partOf at ht
  cases hd : P.underlying t with
  | none => simp [hd] at ht
  | some d =>
    have hag : (isAgg t).run P w = .ok true w := by
      cases d <;> simp_all [isAggT, isAgg, run_underlying hd]
    unfold sizeT at hn
    cases hi : P.info? t with
    | none => simp [hi] at hn
    | some i =>
      simp only [hi, Option.map_some, Option.some.injEq] at hn
      have hld := run_loadCells_list (P := P) w ⟨b, o, none⟩ xs (fun j v hv => by
        rw [add_at]
        have hj : j < xs.length := (List.getElem?_eq_some_iff.1 hv).1
        exact (hc j (by omega)).trans hv)
      simp [Instr.loadAt, Instr.sureAddr, loadVar, hag, sizeOf, typeInfo, hi, hn, ← hl, hld]

/-- the object that an address is one of -/
def rdV : AV → List Nat
  | .ptr n _ => [n]
  | .eptr n _ _ _ => [n]
  | _ => []
def rdS : AV → List Nat
  | .sl n _ _ _ => [n]
  | _ => []
/-- w' holds what w held: in Z's blocks, and in these objects' -/
structure Agr (Z : Nat → Prop) (M : Nat → Option Nat) (ns : List Nat) (w w' : World) : Prop where
  z : ∀ b, Z b → w'.heap[b]? = w.heap[b]?
  m : ∀ n, n ∈ ns → ∀ b, M n = some b → w'.heap[b]? = w.heap[b]?
theorem Rep.mlt (R : Rep c Z M s a w) {n b : Nat} (h : M n = some b) : b < w.heap.size := by
  cases ho : s.hp n with
  | none => rw [R.dead n ho] at h; cases h
  | some o =>
    cases hl : o.live with
    | true => exact ((R.ob n o ho).blk hl h).2
    | false => exact R.zlt b ((R.ob n o ho).ice hl h)
theorem Rep.agr (R : Rep c Z M s a w) {ns : List Nat} (h : Below w.heap.size w w') : Agr Z M ns w w' := ⟨fun b hb => h.block b (R.zlt b hb), fun _ _ b hb => h.block b (R.mlt hb)⟩

/-- what a walk's value says of where it points -/
theorem Rep.box_at (R : Rep c Z M s a w) {n : Nat} {cs : List AV} (h : s.hp n = some (.box cs)) {b : Nat} (hb : M n = some b) : ∃ xs e, w.heap[b]? = some (.cells xs e (0, 0)) ∧ ARs Z M w cs xs.toList := by
  obtain ⟨b', xs, e, h1, h2, h3, _⟩ := R.ob n _ h
  rw [hb] at h1; cases h1
  exact ⟨xs, e, h2, h3⟩
theorem Rep.row_at (R : Rep c Z M s a w) {n es : Nat} {L : List D} (h : s.hp n = some (.row es L) ∨ s.hp n = some (.ice es L)) {b : Nat} (hb : M n = some b) : 0 < es ∧ b < w.heap.size ∧ DRrow Z w es b L 0 := by
  rcases h with h | h
  · obtain ⟨h0, ⟨h1, _⟩ | ⟨b', arr, e, h1, h2, _, _, h3⟩⟩ := R.ob n _ h
    · rw [hb] at h1; cases h1
    · rw [hb] at h1; cases h1
      exact ⟨h0, h2.lt, h3⟩
  · obtain ⟨h0, ⟨h1, _⟩ | ⟨b', h1, h2, h3⟩⟩ := R.ob n _ h
    · rw [hb] at h1; cases h1
    · rw [hb] at h1; cases h1
      exact ⟨h0, R.zlt b h2, h3⟩

/-- a cell of an element -/
theorem elem_cell {d : D} {es b o j : Nat} {x : Value} (hl : LoadsAs w b o es x) (hd : DR Z w d x) (hj : j < es) : ∃ y, w.cell? ⟨b, o + j, none⟩ = some y ∧ y.oneCell' = true ∧ DR Z w (d.cell j) y := by
  obtain ⟨h1, h2⟩ := hl
  have hcs := hd.cells
  have hlen := DRs.len _ _ hcs
  obtain ⟨y, hy, ho, hdy⟩ := DRs.get _ _ hcs j (by rw [← hlen]; simpa [h1] using hj)
  refine ⟨y, ?_, ho, ?_⟩
  · rw [h2 j hj, ← hy]; simp
  · have e : d.cell j = d.cells.getD j default := by
      cases d with
      | agg cs => rfl
      | _ =>
        have h1' := (hd.one (by intro cs; simp)).2
        rw [h1'] at h1
        have : j = 0 := by simp at h1; omega
        subst this
        rfl
    rw [e]; exact hdy
theorem elem_part {d : D} {es b o j n : Nat} {x : Value} (hl : LoadsAs w b o es x) (hd : DR Z w d x) (hj : j + n ≤ es) : ∃ ys : List Value, ys.length = n ∧ (∀ k, k < n → w.cell? ⟨b, o + j + k, none⟩ = ys[k]?) ∧ DRs Z w ((d.cells.drop j).take n) ys := by
  obtain ⟨h1, h2⟩ := hl
  have hcs := hd.cells
  have hlen := DRs.len _ _ hcs
  have hxl : x.cells.toList.length = es := by simpa using h1
  refine ⟨(x.cells.toList.drop j).take n, by rw [List.length_take, List.length_drop]; omega, fun k hk => ?_, ?_⟩
  · rw [Nat.add_assoc, h2 (j + k) (by omega), List.getElem?_take, if_pos hk, List.getElem?_drop]; simp
  · refine DRs.of _ _ (by simp only [List.length_take, List.length_drop]; omega) fun i hi => ?_
    have hi' : i < n ∧ j + i < d.cells.length := by rw [List.length_take, List.length_drop] at hi; omega
    obtain ⟨y, hy, ho, hdy⟩ := DRs.get _ _ hcs (j + i) hi'.2
    refine ⟨y, ?_, ho, ?_⟩
    · rw [List.getElem?_take, if_pos hi'.1, List.getElem?_drop]; exact hy
    · have e : ((d.cells.drop j).take n).getD i default = d.cells.getD (j + i) default := by
        simp only [List.getD, List.getElem?_take, if_pos hi'.1, List.getElem?_drop]
      rw [e]; exact hdy

theorem ld_sound (R : Rep c Z M s a w) {t : TypeId} (ht : partOf P t = some none) {v : AV} {x : Value} (hv : AR Z M w v x) {K : AV → Prop} (h : ldW s v K) :
    ∃ u y, (∀ w', Agr Z M (rdV v) w w' → (Instr.loadAt t x).run P w' = .ok y w') ∧ AR Z M w u y ∧ K u := by
  unfold ldW at h
  split at h
  · rename_i d ds
    unfold AR DR at hv
    obtain ⟨b, off, rfl, hb, hr⟩ := hv
    unfold DRcs at hr
    obtain ⟨⟨y, hc, _, hd⟩, _⟩ := hr
    exact ⟨_, y, fun w' hw => run_loadAt_one ht ((cell_of_heap (hw.z b hb) off).trans hc), by unfold AR; exact hd, h⟩
  · rename_i n off
    unfold AR at hv
    obtain ⟨b, hb, rfl⟩ := hv
    split at h
    · rename_i cs hn
      obtain ⟨xs, e, h1, h2⟩ := R.box_at hn hb
      split at h
      · rename_i u hu
        obtain ⟨y, hy, _, hu2⟩ := ARs.get _ _ h2 off u hu
        refine ⟨u, y, fun w' hw => run_loadAt_one ht ?_, hu2, h⟩
        rw [cell_of_heap (hw.m n (by simp [rdV]) b hb) off, cell_of_row w b off xs e (0, 0) h1]
        simpa using hy
      · exact h.elim
    · rename_i cs hn
      obtain ⟨b', hb', hz, hr⟩ := R.ob n _ hn
      rw [hb] at hb'; cases hb'
      split at h
      · rename_i u hu
        obtain ⟨hlt, rfl⟩ := List.getElem?_eq_some_iff.1 hu
        obtain ⟨y, hc, _, hd⟩ := DRcs.get _ _ hr off hlt
        refine ⟨.d (cs.getD off default), y, fun w' hw => run_loadAt_one ht ?_, by unfold AR; exact hd, by simpa [List.getD, hlt] using h⟩
        rw [cell_of_heap (hw.z b hz) off]
        simpa using hc
      · exact h.elim
    · exact h.elim
  · rename_i n es i j
    unfold AR at hv
    obtain ⟨b, hb, rfl⟩ := hv
    have key : ∀ es' L, (s.hp n = some (.row es' L) ∨ s.hp n = some (.ice es' L)) → es = es' ∧ i < L.length ∧ j < es ∧ K (.d ((L.getD i default).cell j)) → ∃ u y, (∀ w', Agr Z M [n] w w' → (Instr.loadAt t (.pointer (some ⟨b, i * es + j, none⟩))).run P w' = .ok y w') ∧ AR Z M w u y ∧ K u := by
      rintro es' L hn ⟨rfl, hi, hj, hk⟩
      obtain ⟨_, hlt, hr⟩ := R.row_at hn hb
      obtain ⟨y, hl, hd⟩ := DRrow.get L 0 hr i hi
      obtain ⟨z, hc, _, hz⟩ := elem_cell hl hd hj
      refine ⟨_, z, fun w' hw => run_loadAt_one ht ?_, by unfold AR; exact hz, hk⟩
      rw [cell_of_heap (hw.m n (by simp) b hb) (i * es + j)]
      simpa using hc
    split at h
    · rename_i es' L hn
      exact key es' L (.inl hn) h
    · rename_i es' L hn
      exact key es' L (.inr hn) h
    · rename_i cs hn
      obtain ⟨rfl, hi, rfl, hk⟩ := h
      obtain ⟨h1, _⟩ | ⟨b', arr, e, h1, h2, h3, _, h5⟩ := R.ob n _ hn
      · rw [hb] at h1; cases h1
      rw [hb] at h1; cases h1
      have hg : cs[i]? = some (cs.getD i .any) := by simp [List.getD, hi]
      obtain ⟨y, hy, _, hr⟩ := ARs.get _ _ h5 i _ hg
      have hy' : arr[i]? = some y := by
        rw [List.getElem?_take_of_lt hi, Array.getElem?_toList] at hy
        exact hy
      refine ⟨_, y, fun w' hw => run_loadAt_one ht ?_, hr, hk⟩
      rw [cell_of_heap (hw.m n (List.mem_singleton.2 rfl) b hb) (i * 1 + 0), Nat.mul_one, Nat.add_zero, h2.cell i, hy']
    · exact h.elim
  · exact h.elim

theorem DRcs.takes {b : Nat} {cs : List D} {off k n : Nat} (hr : DRcs Z w b cs off) (hn : k + n ≤ cs.length) : ∃ ys : List Value, ys.length = n ∧ (∀ j, j < n → w.cell? ⟨b, off + k + j, none⟩ = ys[j]?) ∧ DRs Z w ((cs.drop k).take n) ys := by
  induction n with
  | zero => exact ⟨[], rfl, fun j hj => by omega, by simp only [List.take_zero]; unfold DRs; rfl⟩
  | succ n ih =>
    obtain ⟨ys, h1, h2, h3⟩ := ih (by omega)
    obtain ⟨y, hc, ho, hd⟩ := DRcs.get _ _ hr (k + n) (by omega)
    refine ⟨ys ++ [y], by simp [h1], fun j hj => ?_, ?_⟩
    · by_cases hjn : j < n
      · rw [h2 j hjn, List.getElem?_append_left (by omega)]
      · obtain rfl : j = n := by omega
        rw [Nat.add_assoc, hc, List.getElem?_append_right (by omega), h1]
        simp
    · refine DRs.of _ _ (by simp only [List.length_append, List.length_take, List.length_drop, List.length_singleton]; omega) fun i hi => ?_
      have hi' : i < n + 1 := by rw [List.length_take] at hi; omega
      by_cases hin : i < n
      · obtain ⟨z, hz, hz1, hz2⟩ := DRs.get _ _ h3 i (by rw [List.length_take, List.length_drop]; omega)
        refine ⟨z, by rw [List.getElem?_append_left (by omega)]; exact hz, hz1, ?_⟩
        have e : ((cs.drop k).take (n + 1)).getD i default = ((cs.drop k).take n).getD i default := by
          simp only [List.getD, List.getElem?_take, if_pos hin, if_pos hi']
        rw [e]; exact hz2
      · obtain rfl : i = n := by omega
        refine ⟨y, by rw [List.getElem?_append_right (by omega), h1]; simp, ho, ?_⟩
        have e : ((cs.drop k).take (i + 1)).getD i default = cs.getD (k + i) default := by
          simp only [List.getD, List.getElem?_take, if_pos hi', List.getElem?_drop]
        rw [e]; exact hd

theorem ldn_sound (R : Rep c Z M s a w) {t : TypeId} {n : Nat} (ht : partOf P t = some (some n)) (hn : sizeT P t = some n) {v : AV} {x : Value} (hv : AR Z M w v x) {K : AV → Prop} (h : ldnW s n v K) :
    ∃ u y, (∀ w', Agr Z M (rdV v) w w' → (Instr.loadAt t x).run P w' = .ok y w') ∧ AR Z M w u y ∧ K u := by
  unfold ldnW at h
  split at h
  · rename_i cs
    unfold AR DR at hv
    obtain ⟨b, off, rfl, hb, hr⟩ := hv
    obtain ⟨ys, h1, h2, h3⟩ := hr.takes (k := 0) (n := n) (by omega)
    refine ⟨_, .agg ys.toArray, fun w' hw => run_loadAt_many ht hn h1 fun j hj => ?_, ?_, h.2⟩
    · rw [cell_of_heap (hw.z b hb) (off + j), ← h2 j hj, Nat.add_zero]
    · unfold AR DR; exact ⟨ys, rfl, by simpa using h3⟩
  · rename_i m off
    unfold AR at hv
    obtain ⟨b, hb, rfl⟩ := hv
    split at h
    · rename_i cs hm
      obtain ⟨xs, e, h1, h2⟩ := R.box_at hm hb
      have hl := ARs.len _ _ h2
      refine ⟨_, .agg ((xs.toList.drop off).take n).toArray, fun w' hw => run_loadAt_many ht hn (by simp only [List.length_take, List.length_drop]; omega) fun j hj => ?_, ?_, h.2⟩
      · rw [cell_of_heap (hw.m m (by simp [rdV]) b hb) (off + j), cell_of_row w b (off + j) xs e (0, 0) h1, List.getElem?_take, if_pos hj, List.getElem?_drop]
        simp
      · unfold AR
        exact ⟨_, rfl, (h2.drop off).take n⟩
    · rename_i cs hm
      obtain ⟨b', hb', hz, hr⟩ := R.ob m _ hm
      rw [hb] at hb'; cases hb'
      obtain ⟨ys, h1, h2, h3⟩ := hr.takes (k := off) (n := n) h.1
      refine ⟨_, .agg ys.toArray, fun w' hw => run_loadAt_many ht hn h1 fun j hj => ?_, ?_, h.2⟩
      · rw [cell_of_heap (hw.z b hz) (off + j), ← h2 j hj, Nat.zero_add]
      · unfold AR DR; exact ⟨ys, rfl, h3⟩
    · exact h.elim
  · rename_i m es i j
    unfold AR at hv
    obtain ⟨b, hb, rfl⟩ := hv
    have key : ∀ es' L, (s.hp m = some (.row es' L) ∨ s.hp m = some (.ice es' L)) → es = es' ∧ i < L.length ∧ j + n ≤ es ∧ K (.d (.agg (((L.getD i default).cells.drop j).take n))) → ∃ u y, (∀ w', Agr Z M [m] w w' → (Instr.loadAt t (.pointer (some ⟨b, i * es + j, none⟩))).run P w' = .ok y w') ∧ AR Z M w u y ∧ K u := by
      rintro es' L hm ⟨rfl, hi, hj, hk⟩
      obtain ⟨_, hlt, hr⟩ := R.row_at hm hb
      obtain ⟨y, hl, hd⟩ := DRrow.get L 0 hr i hi
      obtain ⟨ys, h1, h2, h3⟩ := elem_part hl hd hj
      refine ⟨_, .agg ys.toArray, fun w' hw => run_loadAt_many ht hn h1 fun k hk => ?_, ?_, hk⟩
      · rw [cell_of_heap (hw.m m (by simp) b hb) (i * es + j + k), ← h2 k hk, Nat.zero_add]
      · unfold AR DR; exact ⟨ys, rfl, h3⟩
    split at h
    · rename_i es' L hm
      exact key es' L (.inl hm) h
    · rename_i es' L hm
      exact key es' L (.inr hm) h
    · exact h.elim
  · exact h.elim
end
end Go.Eng

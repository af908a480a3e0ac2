/- The writing operations on a walk's values agree with Go's: literals, new objects, stores, appends. No condition. -/
import Derived.Test.YthbdglibakjfbaaDoorEngI
set_option linter.unusedSectionVars false
namespace Go.Eng
open Go.RowKit
variable [Inhabited Lo]
section
variable {P : Program} {c : Cx} {Z Z' : Nat → Prop} {M : Nat → Option Nat} {s : St} {a : Act} {w w' : World}

theorem wp_value {o : Oper} {x : Value} (h : (execOp a.eval o).run P w = .ok (.value x) w') {K : Act → World → Prop} {Q : Exit → Act → World → Prop} (hk : K (a.put o.dst x) w') : o.wp P a w K Q := by
  unfold Oper.wp; rw [h]; exact hk
theorem wp_skip_ {o : Oper} (h : (execOp a.eval o).run P w = .ok .skip w') {K : Act → World → Prop} {Q : Exit → Act → World → Prop} (hk : K (a.put o.dst undef) w') : o.wp P a w K Q := by
  unfold Oper.wp; rw [h]; exact hk
theorem run_of {o : Oper} {m : Sem Value} {x : Value} (he : execOp a.eval o = (do pure (.value (← m)))) (h : m.run P w = .ok x w') : (execOp a.eval o).run P w = .ok (.value x) w' := by
  rw [he]; simp [h]

/-- what an operation that touches these objects may do: the other objects stay where they were; one block may be written, of one of these objects, none of Z's -/
structure Eff (ns : List Nat) (Z : Nat → Prop) (M M' : Nat → Option Nat) (w w' : World) : Prop where
  at_ : ∀ n, n ∉ ns → M' n = M n
  gr : Frm (fun b => ¬ Z b ∧ ∃ n, n ∈ ns ∧ M n = some b) w w'
theorem Eff.of_below {ns : List Nat} {Z : Nat → Prop} {M M' : Nat → Option Nat} (h : Below w.heap.size w w') (hM : ∀ n, n ∉ ns → M' n = M n) : Eff ns Z M M' w w' := ⟨hM, h.os, h.tape, h.output, h.size, fun b hb _ => h.block b hb⟩
theorem Eff.of_grown {ns : List Nat} {Z : Nat → Prop} {M M' : Nat → Option Nat} {row : Option Nat} (h : w.grownBy w' row) (hr : ∀ b, row = some b → ¬ Z b ∧ ∃ n, n ∈ ns ∧ M n = some b) (hM : ∀ n, n ∉ ns → M' n = M n) : Eff ns Z M M' w w' :=
  ⟨hM, h.os, h.tape, h.output, h.size, fun b hb hn => h.block b hb fun e => hn (hr b e.symm)⟩
theorem Eff.sub {ns : List Nat} {Z Z' : Nat → Prop} {M M' : Nat → Option Nat} (h : Eff ns Z' M M' w w') (hz : ∀ b, Z b → Z' b) : Eff ns Z M M' w w' :=
  ⟨h.at_, h.gr.os, h.gr.tape, h.gr.output, h.gr.size, fun b hb hn => h.gr.block b hb fun ⟨k1, k2⟩ => hn ⟨fun hzb => k1 (hz b hzb), k2⟩⟩

/-- a new row, its first elements given cell by cell -/
theorem Rep.newRow (R : Rep c Z M s a w) (n : Nat) (hfx : n < 2000000) {es : Nat} (h0 : 0 < es) {L : List D} {arr : Array Value} {e : TypeId} {cap : Nat} (hcap : arr.size = cap * es) (hl : L.length ≤ cap) (hm : cap ≤ maxLen)
    (hcells : ∀ i, i < L.length → ∃ x, (x.cells.size = es ∧ ∀ j, j < es → arr[i * es + j]? = x.cells[j]?) ∧ DR Z w (L.getD i default) x) :
    ∃ M', (∀ m, m ≠ n → M' m = M m) ∧ Rep c Z M' (s.renew n (.row es L)) a (w.alloc (.cells arr e)) ∧ AR Z M' (w.alloc (.cells arr e)) (.sl n es 0 L.length) (.slice (some ⟨w.heap.size, 0, none⟩) L.length cap) := by
  have hh := heap_alloc_new w (.cells arr e)
  have hb := below_alloc w (.cells arr e)
  obtain ⟨M', hMo, hM, R'⟩ := R.newOb n hfx (cells := arr) (e := e) (o := .row es L) fun M' hM _ => by
    refine ⟨h0, .inr ⟨w.heap.size, arr, e, hM, .of hh, ?_, not_zlt R, DRrow.of _ _ fun i hi => ?_⟩⟩
    · rw [hcap]; exact Nat.mul_le_mul_right _ hl
    · obtain ⟨x, ⟨hx1, hx2⟩, hx3⟩ := hcells i hi
      refine ⟨x, ⟨hx1, fun j hj => ?_⟩, DR.keep ⟨fun b h => h, fun b o hz => hb.cell (p := ⟨b, o, none⟩) (R.zlt b hz)⟩ _ _ hx3⟩
      rw [Nat.zero_add, cell_of_row (w.alloc (.cells arr e)) w.heap.size (i * es + j) arr e (0, 0) hh]
      exact hx2 j hj
  refine ⟨M', hMo, R', ?_⟩
  unfold AR
  exact ⟨_, cap, rfl, hl, hm, fun _ => .inr ⟨w.heap.size, hM, by rw [Nat.zero_mul], arr, e, .of hh, by rw [Nat.zero_add]; exact hcap⟩⟩

theorem zeroOf_spec {t : TypeId} {zero : List Value} (h : zeroOf P t = some zero) : ∃ i z, P.info? t = some i ∧ i.zero = some z ∧ z.cells.toList = zero ∧ ones zero = true := by
  unfold zeroOf at h
  split at h
  · rename_i i hi
    split at h
    · rename_i z hz
      split at h
      · rename_i ho
        simp only [Option.some.injEq] at h
        exact ⟨i, z, hi, hz, h, by rw [← h]; exact ho⟩
      · cases h
    · cases h
  · cases h
theorem zeroD_spec {t : TypeId} {d : D} (h : zeroD P t = some d) : ∃ i z x, P.info? t = some i ∧ i.zero = some z ∧ x.cells = z.cells ∧ d.cells.length = z.cells.size ∧ ∀ (Z : Nat → Prop) (w : World), DR Z w d x := by
  unfold zeroD at h
  split at h
  · rename_i v hp hz
    simp only [Option.some.injEq] at h
    subst h
    obtain ⟨i, z, h1, h2, h3, h4⟩ := zeroOf_spec hz
    simp only [ones, List.all_cons, List.all_nil, Bool.and_true] at h4
    have hvc : v.cells = #[v] := by cases v <;> simp_all [Value.oneCell', Value.cells]
    have hzc : z.cells = #[v] := by rw [← Array.toArray_toList (xs := z.cells), h3]
    refine ⟨i, z, v, h1, h2, by rw [hvc, hzc], by rw [hzc]; rfl, fun Z w => by unfold DR; exact ⟨rfl, h4⟩⟩
  · rename_i n vs hp hz
    simp only [Option.some.injEq] at h
    subst h
    obtain ⟨i, z, h1, h2, h3, h4⟩ := zeroOf_spec hz
    refine ⟨i, z, .agg vs.toArray, h1, h2, by rw [← h3]; simp [Value.cells], by rw [← h3]; simp [D.cells], fun Z w => ?_⟩
    unfold DR
    exact ⟨vs, rfl, DRs_consts _ h4⟩
  · cases h
theorem madeCells_get (z : Array Value) (n q : Nat) (hq : q < n) (hz : 0 < z.size) : (madeCells z n)[q]? = z[q % z.size]? := by
  have := Nat.mod_lt q hz
  simp [madeCells, hq, this]

theorem box_sound (R : Rep c Z M s a w) {n : Nat} (hfx : n < 2000000) {cells : Array Value} {e : TypeId} {cs : List AV} (hcs : ARs Z M w cs cells.toList) :
    ∃ M', (∀ m, m ≠ n → M' m = M m) ∧ Rep c Z M' (s.renew n (.box (AV.killL (some n) cs))) a (w.alloc (.cells cells e)) ∧ AR Z M' (w.alloc (.cells cells e)) (.ptr n 0) (.pointer (some ⟨w.heap.size, 0, none⟩)) := by
  obtain ⟨M', hMo, hM, R'⟩ := R.newOb n hfx (cells := cells) (e := e) (o := .box (AV.killL (some n) cs)) fun M' hM k =>
    ⟨w.heap.size, cells, e, hM, heap_alloc_new w _, ARs.kill k _ _ hcs, not_zlt R⟩
  exact ⟨M', hMo, R', by unfold AR; exact ⟨_, hM, rfl⟩⟩
theorem killL_consts (n : Option Nat) : ∀ xs : List Value, AV.killL n (xs.map fun v => AV.d (.c v)) = xs.map fun v => AV.d (.c v)
  | [] => rfl
  | x :: xs => by simp only [List.map_cons, AV.killL, AV.kill]; rw [killL_consts n xs]

/-- writing cells into the block of an own object -/
theorem setRow_grown {b : Nat} {cur ys : Array Value} {e : TypeId} (hg : w.heap[b]? = some (.cells cur e (0, 0))) (hs : ys.size = cur.size) : w.grownBy (w.setRow b ys) (some b) ∧ (∀ k, room w b k → room (w.setRow b ys) b k) ∧ (w.setRow b ys).heap[b]? = some (.cells ys e (0, 0)) := by
  have h := setRow_heap w b cur ys e (0, 0) hg
  refine ⟨⟨rfl, rfl, rfl, by simp [World.setRow], fun k _ hk => setRow_other w b k ys (fun e => hk (by rw [e]))⟩, ?_, h⟩
  rintro k ⟨arr, e', h1, h2⟩
  obtain ⟨rfl, rfl⟩ := (blkAt.of hg).uniq h1
  exact ⟨ys, e, .of h, hs.trans h2⟩
theorem blkAt.set {b : Nat} {cur ys : Array Value} {e : TypeId} (hg : blkAt w b cur e) (hs : ys.size = cur.size) : blkAt (w.setRow b ys) b ys e := by
  obtain ⟨fr, h1, h2⟩ := hg
  exact ⟨fr, setRow_heap w b cur ys e fr h1, by rw [hs]; exact h2⟩
theorem setRow_grown' {b : Nat} {cur ys : Array Value} {e : TypeId} (hg : blkAt w b cur e) (hs : ys.size = cur.size) : w.grownBy (w.setRow b ys) (some b) ∧ (∀ k, room w b k → room (w.setRow b ys) b k) ∧ blkAt (w.setRow b ys) b ys e := by
  refine ⟨⟨rfl, rfl, rfl, by simp [World.setRow], fun k _ hk => setRow_other w b k ys (fun e => hk (by rw [e]))⟩, ?_, hg.set hs⟩
  rintro k ⟨arr, e', h1, h2⟩
  obtain ⟨rfl, rfl⟩ := hg.uniq h1
  exact ⟨ys, e, hg.set hs, hs.trans h2⟩
/-- cells stored one by one into a block of which no cell is frozen -/
theorem run_storeCells_ok (g o : Nat) (t : TypeId) : ∀ (vs : List Value) (i : Nat) (cur : Array Value) (w : World), blkAt w g cur t → o + i + vs.length ≤ cur.size → (∀ v ∈ vs, v.oneCell' = true) →
    (storeCells ⟨g, o, none⟩ vs i).run P w = .ok () (w.setRow g (cur.toList.take (o + i) ++ vs ++ cur.toList.drop (o + i + vs.length)).toArray)
  | [], i, cur, w, ⟨fr, hg, _⟩, _, _ => by
    simp only [storeCells, List.append_nil, List.length_nil, Nat.add_zero, List.take_append_drop, Array.toArray_toList]
    rw [setRow_self w g cur t fr hg]
    rfl
  | v :: rest, i, cur, w, hB, hl, h1 => by
    obtain ⟨fr, hg, hf⟩ := hB
    have hi : o + i < cur.size := by simp at hl; omega
    have hadd : (⟨g, o, none⟩ : Addr).add i = ⟨g, o + i, none⟩ := by unfold Addr.add; split <;> simp_all
    have hcell : w.cell? ⟨g, o + i, none⟩ = some cur[o + i] := by simp [World.cell?, hg, hi]
    have hfro : w.frozen? ⟨g, o + i, none⟩ = false := by
      unfold World.frozen?
      dsimp only
      rw [hg]
      rcases hf with q | q
      · simp only [Bool.and_eq_false_iff, decide_eq_false_iff_not]
        left; omega
      · rw [q]; simp
    have hst : (store ((⟨g, o, none⟩ : Addr).add i) v).run P w = .ok () (w.setRow g (cur.setIfInBounds (o + i) v)) := by
      rw [hadd, run_store P w _ v _ (h1 v (by simp)), hcell]
      simp [hfro, setCell_eq_setRow w g (o + i) cur t fr v hg]
    have ih := run_storeCells_ok g o t rest (i + 1) (cur.setIfInBounds (o + i) v) (w.setRow g (cur.setIfInBounds (o + i) v)) ((show blkAt w g cur t from ⟨fr, hg, hf⟩).set (by simp)) (by simp at hl ⊢; omega) (fun x hx => h1 x (by simp [hx]))
    simp only [storeCells, Sem.run_bind, hst, Result.andThen_ok, ih, setRow_setRow]
    congr 3
    have e := list_seg_step cur.toList (o + i) v rest (by simp at hl ⊢; omega)
    simpa [Array.toList_setIfInBounds, Nat.add_assoc] using e
theorem run_storeAt_at {t : TypeId} {b off : Nat} {x : Value} {cur : Array Value} {e : TypeId} {size : Nat} (ht : sizeT P t = some size) (hx : x.cells.size = size) (h1 : ∀ v ∈ x.cells.toList, v.oneCell' = true) (hg : blkAt w b cur e) (hf : off + size ≤ cur.size) :
    (Instr.storeAt t (.pointer (some ⟨b, off, none⟩)) x).run P w = .ok () (w.setRow b (spl cur.toList off x.cells.toList).toArray) := by
  unfold sizeT at ht
  cases hi : P.info? t with
  | none => simp [hi] at ht
  | some i =>
    simp only [hi, Option.map_some, Option.some.injEq] at ht
    have hst := run_storeCells_ok (P := P) b off e x.cells.toList 0 cur w hg (by simp; omega) h1
    rw [Nat.add_zero] at hst
    have hne : ¬ x.cells.size ≠ i.size := by omega
    simp only [Instr.storeAt, Instr.sureAddr, Sem.run_bind, Sem.run_pure, Result.andThen_ok, storeVar, sizeOf, typeInfo, run_program, hi, if_neg hne]
    exact hst
theorem spl_len {α : Type} {cs xs : List α} {off : Nat} (h : off + xs.length ≤ cs.length) : (spl cs off xs).length = cs.length := by
  unfold spl
  simp only [List.length_append, List.length_take, List.length_drop]
  omega
theorem spl_get {α : Type} {cs xs : List α} {off : Nat} (h : off + xs.length ≤ cs.length) (q : Nat) : (spl cs off xs)[q]? = if q < off then cs[q]? else if q < off + xs.length then xs[q - off]? else cs[q]? := by
  unfold spl
  have e1 : min off cs.length = off := by omega
  simp only [List.append_assoc, List.getElem?_append, List.length_take, List.getElem?_take, List.getElem?_drop, e1]
  by_cases h1 : q < off
  · simp [h1]
  · rw [if_neg h1, if_neg h1]
    by_cases h2 : q < off + xs.length
    · rw [if_pos (by omega), if_pos h2]
    · rw [if_neg (by omega), if_neg h2]
      congr 1; omega
theorem ARs.ones : ∀ {cs : List AV} {xs : List Value}, ARs Z M w cs xs → ∀ v ∈ xs, v.oneCell' = true
  | [], xs, h, v, hv => by unfold ARs at h; subst h; simp at hv
  | d :: cs, xs, h, v, hv => by
    unfold ARs at h
    obtain ⟨x, xs', rfl, h1, _, h2⟩ := h
    rcases List.mem_cons.1 hv with rfl | hv
    · exact h1
    · exact ARs.ones h2 v hv
theorem DRs.ones {cs : List D} {xs : List Value} (h : DRs Z w cs xs) : ∀ v ∈ xs, v.oneCell' = true := (ARs.of_D (M := fun _ => none) h).ones

theorem stbox_sound (R : Rep c Z M s a w) {n off : Nat} {cs xs : List AV} {x : Value} {size : Nat} {t : TypeId} (ht : sizeT P t = some size) (hn : s.hp n = some (.box cs)) {p : Value} (hp : AR Z M w (.ptr n off) p)
    (hxs : ARs Z M w xs x.cells.toList) (hl : xs.length = size) (hf : off + size ≤ cs.length) :
    ∃ w', (Instr.storeAt t p x).run P w = .ok () w' ∧ Eff [n] Z M M w w' ∧ Rep c Z M (s.turn n (.box (spl cs off xs))) a w' := by
  unfold AR at hp
  obtain ⟨b, hb, rfl⟩ := hp
  obtain ⟨b', cur, e, h1, h2, h3, h4⟩ := R.ob n _ hn
  rw [hb] at h1; cases h1
  have hlc := ARs.len _ _ h3
  have hlx := ARs.len _ _ hxs
  have hx : x.cells.size = size := by rw [← hl, ← hlx]; simp
  have hcur : cur.size = cs.length := by rw [← hlc]; simp
  have hrun := run_storeAt_at (P := P) (off := off) ht hx hxs.ones (.of h2) (by omega)
  obtain ⟨g, hr, hh⟩ := setRow_grown (ys := (spl cur.toList off x.cells.toList).toArray) h2 (by simp only [List.size_toArray]; rw [spl_len (by simp; omega)]; simp)
  have hlv : s.live n := ⟨_, hn, rfl⟩
  refine ⟨_, hrun, Eff.of_grown g (fun b' hb' => by cases hb'; exact ⟨h4, n, by simp, hb⟩) (fun _ _ => rfl), R.turn n g hlv hb hr ⟨b, _, e, hb, hh, ?_, h4⟩⟩
  have k := R.stays_turn g hlv hb hr
  exact (ARs.keep k h3).spl (ARs.keep k hxs) off

theorem DRs.spl {cs ds : List D} {xs ys : List Value} (h : DRs Z w cs xs) (k : DRs Z w ds ys) {off : Nat} (hf : off + ds.length ≤ cs.length) : DRs Z w (spl cs off ds) (spl xs off ys) := by
  have l1 := DRs.len _ _ h
  have l2 := DRs.len _ _ k
  refine DRs.of _ _ (by rw [spl_len (by omega), spl_len hf, l1]) fun i hi => ?_
  rw [spl_len hf] at hi
  rw [spl_get (by omega), l2]
  have e : (Eng.spl cs off ds).getD i default = if i < off then cs.getD i default else if i < off + ds.length then ds.getD (i - off) default else cs.getD i default := by
    simp only [List.getD, spl_get hf]
    split
    · rfl
    · split <;> rfl
  rw [e]
  by_cases h1 : i < off
  · rw [if_pos h1, if_pos h1]; exact DRs.get _ _ h i hi
  · rw [if_neg h1, if_neg h1]
    by_cases h2 : i < off + ds.length
    · rw [if_pos h2, if_pos h2]; exact DRs.get _ _ k _ (by omega)
    · rw [if_neg h2, if_neg h2]; exact DRs.get _ _ h i hi

theorem strow_sound (R : Rep c Z M s a w) {n es i j : Nat} {L : List D} {d : D} {x : Value} {size : Nat} {t : TypeId} (ht : sizeT P t = some size) (hn : s.hp n = some (.row es L)) {p : Value} (hp : AR Z M w (.eptr n es i j) p)
    (hd : DR Z w d x) (hl : d.cells.length = size) (hi : i < L.length) (hf : j + size ≤ es) (hel : (L.getD i default).cells.length = es) :
    ∃ w', (Instr.storeAt t p x).run P w = .ok () w' ∧ Eff [n] Z M M w w' ∧ Rep c Z M (s.turn n (.row es (L.set i ((L.getD i default).upd es j size d)))) a w' := by
  unfold AR at hp
  obtain ⟨b, hb, rfl⟩ := hp
  obtain ⟨h0, ⟨h1, _⟩ | ⟨b', cur, e, h1, h2, h3, h4, h5⟩⟩ := R.ob n _ hn
  · rw [hb] at h1; cases h1
  rw [hb] at h1; cases h1
  have hdc := hd.cells
  have hlx := DRs.len _ _ hdc
  have hx : x.cells.size = size := by rw [← hl, ← hlx]; simp
  have hie : (i + 1) * es ≤ L.length * es := Nat.mul_le_mul_right _ (by omega)
  rw [Nat.add_mul, Nat.one_mul] at hie
  have hfit : i * es + j + size ≤ cur.size := by omega
  have hrun := run_storeAt_at (P := P) (off := i * es + j) ht hx hdc.ones h2 hfit
  obtain ⟨g, hr, hh⟩ := setRow_grown' (ys := (spl cur.toList (i * es + j) x.cells.toList).toArray) h2 (by simp only [List.size_toArray]; rw [spl_len (by simp; omega)]; simp)
  have hlv : s.live n := ⟨_, hn, rfl⟩
  have k := R.stays_turn g hlv hb hr
  have hcell : ∀ q, (w.setRow b (spl cur.toList (i * es + j) x.cells.toList).toArray).cell? ⟨b, q, none⟩ = if q < i * es + j then w.cell? ⟨b, q, none⟩ else if q < i * es + j + size then x.cells[q - (i * es + j)]? else w.cell? ⟨b, q, none⟩ := by
    intro q
    rw [hh.cell q, h2.cell q]
    have := spl_get (cs := cur.toList) (xs := x.cells.toList) (off := i * es + j) (by simp; omega) q
    simp only [Array.length_toList, hx] at this
    simp only [List.getElem?_toArray, this]
    simp
  refine ⟨_, hrun, Eff.of_grown g (fun b' hb' => by cases hb'; exact ⟨h4, n, by simp, hb⟩) (fun _ _ => rfl), R.turn n g hlv hb hr ⟨h0, .inr ⟨b, _, e, hb, hh, ?_, h4, DRrow.of _ _ fun q hq => ?_⟩⟩⟩
  · simp only [List.length_set, List.size_toArray]
    rw [spl_len (by simp; omega)]
    simpa using h3
  · rw [List.length_set] at hq
    obtain ⟨y, ⟨hy1, hy2⟩, hy3⟩ := DRrow.get _ _ h5 q hq
    by_cases hqi : q = i
    · subst hqi
      have e1 : (L.set q ((L.getD q default).upd es j size d)).getD q default = (L.getD q default).upd es j size d := by simp [List.getD, hi]
      rw [e1]
      unfold D.upd
      split
      · rename_i hjs
        obtain ⟨rfl, rfl⟩ := hjs
        refine ⟨x, ⟨hx, fun j hj => ?_⟩, DR.keep k.toKeeps _ _ hd⟩
        rw [hcell, if_neg (by omega), if_pos (by omega)]
        congr 1; omega
      · refine ⟨.agg (spl y.cells.toList j x.cells.toList).toArray, ⟨?_, fun j' hj => ?_⟩, ?_⟩
        · show (spl y.cells.toList j x.cells.toList).toArray.size = es
          rw [List.size_toArray, spl_len (by simp; omega)]
          simpa using hy1
        · have h6 := spl_get (cs := y.cells.toList) (xs := x.cells.toList) (off := j) (by simp; omega) j'
          simp only [Array.length_toList, hx] at h6
          have hcl : (Value.agg (spl y.cells.toList j x.cells.toList).toArray).cells[j']? = (spl y.cells.toList j x.cells.toList)[j']? := by
            show (List.toArray _)[j']? = _
            simp
          have h7 := hy2 j' hj
          rw [Nat.zero_add] at h7
          rw [hcl, h6, hcell, Nat.zero_add]
          by_cases c1 : j' < j
          · rw [if_pos (by omega), if_pos c1, h7]; simp
          · rw [if_neg (by omega), if_neg c1]
            by_cases c2 : j' < j + size
            · rw [if_pos (by omega), if_pos c2, show q * es + j' - (q * es + j) = j' - j from by omega]; simp
            · rw [if_neg (by omega), if_neg c2, h7]; simp
        · unfold DR
          exact ⟨_, rfl, (DRs.keep k.toKeeps _ _ hy3.cells).spl (DRs.keep k.toKeeps _ _ hdc) (by omega)⟩
    · have e1 : (L.set i ((L.getD i default).upd es j size d)).getD q default = L.getD q default := by
        simp only [List.getD]
        rw [List.getElem?_set_ne (Ne.symm hqi)]
      rw [e1]
      refine ⟨y, ⟨hy1, fun j' hj => ?_⟩, DR.keep k.toKeeps _ _ hy3⟩
      rw [← hy2 j' hj, hcell]
      have : q * es + j' < i * es ∨ i * es + es ≤ q * es + j' := by
        rcases Nat.lt_or_gt_of_ne hqi with h | h
        · have : (q + 1) * es ≤ i * es := Nat.mul_le_mul_right _ h
          rw [Nat.add_mul, Nat.one_mul] at this
          omega
        · have : (i + 1) * es ≤ q * es := Nat.mul_le_mul_right _ h
          rw [Nat.add_mul, Nat.one_mul] at this
          omega
      rw [Nat.zero_add]
      rcases this with h | h
      · rw [if_pos (by omega)]
      · rw [if_neg (by omega), if_neg (by omega)]
end
end Go.Eng

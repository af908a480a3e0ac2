/- All reading operations ('tk_sound'). No condition. -/
import Derived.Test.YthbdglibakjfbaaDoorEngE
set_option linter.unusedSectionVars false
namespace Go.Eng
open Go.RowKit
variable [Inhabited Lo]
section
variable {P : Program} {c : Cx} {Z : Nat → Prop} {M : Nat → Option Nat} {s : St} {a : Act} {w w' : World}

theorem ARs.dropTake {cs : List AV} {xs : List Value} (h : ARs Z M w cs xs) (off n : Nat) : AR Z M w (.agg ((cs.drop off).take n)) (.agg ((xs.drop off).take n).toArray) := by
  unfold AR; exact ⟨_, rfl, (h.drop off).take n⟩
theorem idxA_sound {t e : TypeId} {len : Nat} (ht : P.underlying t = some (.array len e)) (he : partOf P e = some none) (hs : sizeT P e = some 1) {v : AV} {x : Value} (hv : AR Z M w v x) {k : IntKind} {i : Int} (hi : 0 ≤ i ∧ i < len) {K : AV → Prop} (h : fldW i.toNat none v K) :
    ∃ r z, Runs P (Instr.index t x (.int k i)) z ∧ AR Z M w r z ∧ K r := by
  have key : ∀ (cs : List AV) (xs : List Value), ARs Z M w cs xs → partW i.toNat none cs K → ∃ r z, Runs P (Instr.index t (.agg xs.toArray) (.int k i)) z ∧ AR Z M w r z ∧ K r := by
    intro cs xs hcs hk
    unfold partOf at he
    cases hd : P.underlying e with
    | none => simp [hd] at he
    | some d =>
      simp only [hd] at he
      cases hag : isAggT d with
      | true =>
        simp only [hag, if_true] at he
        cases hq : P.info? e <;> simp [hq] at he
      | false =>
        unfold partW at hk
        dsimp only at hk
        split at hk
        · rename_i v hv
          obtain ⟨y, hy, _, hyv⟩ := ARs.get _ _ hcs _ _ hv
          refine ⟨v, y, fun w => ?_, hyv, hk⟩
          have hagr : (isAgg e).run P w = .ok false w := by cases d <;> simp_all [isAggT, isAgg, run_underlying hd]
          cases hq : P.info? e with
          | none => simp [sizeT, hq] at hs
          | some inf =>
            have hs1 : inf.size = 1 := by simpa [sizeT, hq] using hs
            simp [Instr.index, run_underlying ht, asIntOf, hi.1, hi.2, part, hagr, sizeOf, typeInfo, hq, hs1, hy]
        · exact hk.elim
  unfold fldW at h
  split at h
  · rename_i cs
    unfold AR DR at hv
    obtain ⟨xs, rfl, hcs⟩ := hv
    unfold partDW at h
    dsimp only at h
    split at h
    · rename_i v hv
      exact key (cs.map .d) xs (ARs.of_D hcs) (by simp only [partW, List.getElem?_map, hv, Option.map_some]; exact h)
    · exact h.elim
  · rename_i cs
    unfold AR at hv
    obtain ⟨xs, rfl, hcs⟩ := hv
    exact key cs xs hcs h
  · exact h.elim
theorem fld_sound {t : TypeId} {fields : Array Field} {f : Nat} {fd : Field} {n : Option Nat} (ht : P.underlying t = some (.struct fields)) (hf : fields[f]? = some fd) (hn : partOf P fd.type = some n) {v : AV} {x : Value} (hv : AR Z M w v x) {K : AV → Prop} (h : fldW fd.offset n v K) :
    ∃ r z, Runs P (Instr.field t x f) z ∧ AR Z M w r z ∧ K r := by
  have key : ∀ (cs : List AV) (xs : List Value) (K : AV → Prop), ARs Z M w cs xs → partW fd.offset n cs K →
      ∃ r z, Runs P (Instr.field t (.agg xs.toArray) f) z ∧ AR Z M w r z ∧ K r := by
    intro cs xs K hcs hk
    unfold partOf at hn
    cases hd : P.underlying fd.type with
    | none => simp [hd] at hn
    | some d =>
      simp only [hd] at hn
      cases hag : isAggT d with
      | false =>
        simp only [hag, Bool.false_eq_true, if_false, Option.some.injEq] at hn
        subst hn
        unfold partW at hk
        dsimp only at hk
        split at hk
        · rename_i v hv
          obtain ⟨y, hy, _, hyv⟩ := ARs.get _ _ hcs _ _ hv
          refine ⟨v, y, fun w => ?_, hyv, hk⟩
          have hagr : (isAgg fd.type).run P w = .ok false w := by cases d <;> simp_all [isAggT, isAgg, run_underlying hd]
          simp [Instr.field, run_underlying ht, hf, asAgg, part, hagr, hy]
        · exact hk.elim
      | true =>
        simp only [hag, if_true] at hn
        cases hi : P.info? fd.type with
        | none => simp [hi] at hn
        | some i =>
          simp only [hi, Option.map_some, Option.some.injEq] at hn
          subst hn
          refine ⟨_, _, fun w => ?_, hcs.dropTake fd.offset i.size, hk⟩
          have hagr : (isAgg fd.type).run P w = .ok true w := by cases d <;> simp_all [isAggT, isAgg, run_underlying hd]
          simp [Instr.field, run_underlying ht, hf, asAgg, part, hagr, sizeOf, typeInfo, hi, List.extract_toArray, List.extract]
  unfold fldW at h
  split at h
  · rename_i cs
    unfold AR DR at hv
    obtain ⟨xs, rfl, hcs⟩ := hv
    unfold partDW at h
    cases n with
    | none =>
      dsimp only at h
      split at h
      · rename_i v hv
        exact key (cs.map .d) xs K (ARs.of_D hcs) (by simp only [partW, List.getElem?_map, hv, Option.map_some]; exact h)
      · exact h.elim
    | some n =>
      obtain ⟨r, z, h1, h2, h3⟩ := key (cs.map .d) xs (fun v => v = .agg (((cs.map AV.d).drop fd.offset).take n)) (ARs.of_D hcs) rfl
      subst h3
      refine ⟨.d (.agg ((cs.drop fd.offset).take n)), z, h1, ?_, h⟩
      unfold AR at h2 ⊢
      obtain ⟨ys, rfl, h2⟩ := h2
      unfold DR
      refine ⟨ys, rfl, ?_⟩
      rw [← List.map_drop, ← List.map_take] at h2
      clear h1 key h hcs
      generalize (cs.drop fd.offset).take n = ds at h2
      induction ds generalizing ys with
      | nil => simp only [List.map_nil] at h2; unfold ARs at h2; unfold DRs; exact h2
      | cons d ds ih =>
        simp only [List.map_cons] at h2
        unfold ARs at h2
        obtain ⟨x, xs', rfl, a1, a2, a3⟩ := h2
        unfold AR at a2
        unfold DRs
        exact ⟨x, xs', rfl, a1, a2, ih _ a3⟩
  · rename_i cs
    unfold AR at hv
    obtain ⟨xs, rfl, hcs⟩ := hv
    exact key cs xs K hcs h
  · exact h.elim

theorem mm_fold (R : Rep c Z M s a w) (isMax : Bool) {k : IntKind} {K : Int → Prop} : ∀ (os : List Operand) (x : Int), mmW isMax s k x K os →
    ∃ z, K z ∧ ∀ w, ((os.map a.eval).foldlM (if isMax = true then Builtin.max2 else Builtin.min2) (.int k x)).run P w = .ok (.int k z) w
  | [], x, h => ⟨x, h, fun w => by simp⟩
  | o :: os, x, h => by
    unfold mmW at h
    obtain ⟨k', y, he, h⟩ := intW_iff (R.ev o) h
    obtain ⟨z, hz, hr⟩ := mm_fold R isMax os _ h
    refine ⟨z, hz, fun w => ?_⟩
    have := hr w
    cases isMax <;> simp_all [Builtin.min2, Builtin.max2]

theorem cells_sound {v : AV} {x : Value} (hv : AR Z M w v x) {K : List AV → Prop} (h : v.cellsW K) : ∃ cs, K cs ∧ ARs Z M w cs x.cells.toList := by
  unfold AV.cellsW at h
  split at h
  · unfold AR at hv
    obtain ⟨xs, rfl, hcs⟩ := hv
    exact ⟨_, h, by simpa [Value.cells] using hcs⟩
  · unfold AR at hv
    obtain ⟨xs, rfl, hcs⟩ := (by unfold DR at hv; exact hv)
    exact ⟨_, h, by simpa [Value.cells] using ARs.of_D hcs⟩
  · exact h.elim
  · exact h.elim
  · rename_i h1 h2 h3 h4
    refine ⟨_, h, ?_⟩
    have hone : x.oneCell' = true := by
      cases v with
      | any => exact absurd rfl h3
      | d y =>
        unfold AR at hv
        exact (hv.one fun cs e => h2 cs (by rw [e])).1
      | ptr n off => unfold AR at hv; obtain ⟨b, _, rfl⟩ := hv; rfl
      | eptr n es i j => unfold AR at hv; obtain ⟨b, _, rfl⟩ := hv; rfl
      | sl n es off len => unfold AR at hv; obtain ⟨ad, cap, rfl, _⟩ := hv; rfl
      | agg cs => exact absurd rfl (h1 cs)
      | tup vs => exact absurd rfl (h4 vs)
      | fn f caps => unfold AR at hv; obtain ⟨xs, rfl, _⟩ := hv; rfl
      | mp n => unfold AR at hv; obtain ⟨b, _, rfl⟩ := hv; rfl
    have : x.cells.toList = [x] := by cases x <;> simp_all [Value.oneCell', Value.cells]
    rw [this]
    unfold ARs
    exact ⟨x, [], rfl, hone, hv, by unfold ARs; rfl⟩

theorem fold_spl : ∀ (xs : List Value) (k : Nat) (cs : Array Value) (off : Nat), off + k + xs.length ≤ cs.size →
    ((xs.zipIdx k).foldl (fun (cs : Array Value) (p : Value × Nat) => cs.setIfInBounds (off + p.2) p.1) cs).toList = cs.toList.take (off + k) ++ xs ++ cs.toList.drop (off + k + xs.length)
  | [], k, cs, off, h => by simp
  | x :: xs, k, cs, off, h => by
    simp only [List.zipIdx_cons, List.foldl_cons]
    have hl : off + k < cs.size := by simp at h; omega
    rw [fold_spl xs (k + 1) _ off (by simp at h ⊢; omega)]
    simp only [Array.toList_setIfInBounds, List.length_cons]
    have hl' : off + k < cs.toList.length := by simpa using hl
    apply List.ext_getElem?
    intro i
    simp only [List.append_assoc, List.getElem?_append, List.length_take, List.length_set, List.getElem?_take, List.getElem?_drop, List.getElem?_set, List.length_cons, List.getElem?_cons]
    have e1 : min (off + (k + 1)) cs.toList.length = off + k + 1 := by omega
    have e2 : min (off + k) cs.toList.length = off + k := by omega
    rw [e1, e2]
    by_cases h1 : i < off + k
    · rw [if_pos (by omega), if_pos (by omega), if_pos h1, if_pos h1, if_neg (by omega)]
    · by_cases h2 : i = off + k
      · subst h2
        rw [if_pos (by omega), if_pos (by omega), if_pos rfl, if_pos hl', if_neg (by omega), Nat.sub_self, if_pos (by omega)]
        rfl
      · rw [if_neg (by omega), if_neg h1]
        by_cases h3 : i - (off + (k + 1)) < xs.length
        · rw [if_pos (by omega), if_pos (by omega), if_neg (by omega)]
          congr 1 <;> omega
        · rw [if_neg (by omega), if_neg (by omega), if_neg (by omega)]
          congr 1 <;> omega
end
end Go.Eng
namespace Go.Eng
open Go.RowKit
variable [Inhabited Lo]
section
variable {P : Program} {c : Cx} {Z : Nat → Prop} {M : Nat → Option Nat} {s : St} {a : Act} {w w' : World}

theorem ARs.spl {cs ds : List AV} {xs ys : List Value} (h : ARs Z M w cs xs) (k : ARs Z M w ds ys) (off : Nat) : ARs Z M w (spl cs off ds) (spl xs off ys) := by
  unfold Eng.spl
  rw [ARs.len _ _ k]
  exact ((h.take off).append k).append (h.drop _)
theorem fill_sound (R : Rep c Z M s a w) (pl : Nat → Option (Nat × Nat)) {K : List AV → Prop} : ∀ (parts : List (Nat × Operand)) (ps : List (Nat × Nat × Operand)) (cs : List AV) (xs : Array Value),
    (parts.mapM fun (p : Nat × Operand) => (pl p.1).map fun (q : Nat × Nat) => (q.1, q.2, p.2)) = some ps → ARs Z M w cs xs.toList → buildW s K cs ps →
    ∃ ys cs', Instr.fill pl xs (parts.map fun p => (p.1, a.eval p.2)) = some ys ∧ K cs' ∧ ARs Z M w cs' ys.toList
  | [], ps, cs, xs, hp, hcs, h => by
    simp at hp; subst hp
    exact ⟨xs, cs, rfl, h, hcs⟩
  | p :: parts, ps, cs, xs, hp, hcs, h => by
    rw [List.mapM_cons] at hp
    cases hq : pl p.1 with
    | none => simp [hq] at hp
    | some q =>
      cases hr : (parts.mapM fun (p : Nat × Operand) => (pl p.1).map fun (q : Nat × Nat) => (q.1, q.2, p.2)) with
      | none => simp [hq, hr] at hp
      | some rest =>
        simp [hq, hr] at hp
        subst hp
        unfold buildW at h
        obtain ⟨ds, ⟨h1, h2, h3⟩, hds⟩ := cells_sound (R.ev p.2) h
        have hl := ARs.len _ _ hcs
        have hl2 := ARs.len _ _ hds
        have hl' : xs.size = cs.length := by rw [← hl]; simp
        have hl2' : (a.eval p.2).cells.size = q.2 := by rw [← h1, ← hl2]; simp
        have hfold : (((a.eval p.2).cells.zipIdx).foldl (fun (cs : Array Value) (p : Value × Nat) => cs.setIfInBounds (q.1 + p.2) p.1) xs).toList = Eng.spl xs.toList q.1 (a.eval p.2).cells.toList := by
          have := fold_spl (a.eval p.2).cells.toList 0 xs q.1 (by simp; omega)
          rw [← Array.foldl_toList, Array.toList_zipIdx]
          simpa [Eng.spl] using this
        obtain ⟨ys, cs', hy, hk, hcs'⟩ := fill_sound R pl parts rest _ _ hr (by rw [hfold]; exact hcs.spl hds q.1) h3
        refine ⟨ys, cs', ?_, hk, hcs'⟩
        simp only [List.map_cons]
        unfold Instr.fill
        simp only [hq]
        rw [if_neg (by simp; omega)]
        exact hy
theorem built_of {t : TypeId} {zero : List Value} {pl : Nat → Option (Nat × Nat)} (hz : zeroOf P t = some zero) (hp : placesOf P t = some pl) (parts : List (Nat × Value)) : P.built t parts = Instr.fill pl zero.toArray parts ∧ ones zero = true := by
  unfold zeroOf at hz
  unfold placesOf at hp
  unfold Program.built
  cases hi : P.info? t with
  | none => simp [hi] at hz
  | some i =>
    cases hz0 : i.zero with
    | none => simp [hi, hz0] at hz
    | some z =>
      simp only [hi, hz0] at hz
      split at hz
      · rename_i ho
        simp only [Option.some.injEq] at hz
        subst hz
        refine ⟨?_, ho⟩
        cases hd : P.underlying t with
        | none => simp [hd] at hp
        | some d =>
          cases d <;> try (simp [hd] at hp; done)
          case struct fields =>
            simp only [hd] at hp
            split at hp
            · rename_i places hpl
              simp only [Option.some.injEq] at hp
              subst hp
              simp [hpl, hz0]
            · cases hp
          case array n e =>
            simp only [hd] at hp
            split at hp
            · rename_i ie hie
              simp only [Option.some.injEq] at hp
              subst hp
              simp [hie, hz0]
            · cases hp
      · cases hz
theorem ARs_consts {xs : List Value} (h : ones xs = true) : ARs Z M w (xs.map fun v => AV.d (.c v)) xs := by
  have := ARs.of_D (M := M) (DRs_consts (Z := Z) (w := w) xs h)
  rwa [List.map_map] at this

theorem fn_cells {vs : List AV} {xs : List Value} (h1 : allOne vs) (h : xs.length = vs.length) (hv : ∀ (i : Nat) v, vs[i]? = some v → ∃ x, xs[i]? = some x ∧ AR Z M w v x) : ARs Z M w vs xs := by
  induction vs generalizing xs with
  | nil => unfold ARs; exact List.eq_nil_of_length_eq_zero h
  | cons v vs ih =>
    cases xs with
    | nil => simp at h
    | cons x xs =>
      unfold allOne at h1
      obtain ⟨y, hy, hvx⟩ := hv 0 v rfl
      simp at hy
      subst hy
      unfold ARs
      refine ⟨x, xs, rfl, ?_, hvx, ih h1.2 (by simpa using h) fun i v' hi => by simpa using hv (i + 1) v' (by simpa using hi)⟩
      have h1 := h1.1
      unfold oneW at h1
      cases v with
      | any => exact h1.elim
      | d y =>
        unfold AR at hvx
        exact (hvx.one fun cs e => by rw [e] at h1; exact h1).1
      | ptr n off => unfold AR at hvx; obtain ⟨b, _, rfl⟩ := hvx; rfl
      | eptr n es i j => unfold AR at hvx; obtain ⟨b, _, rfl⟩ := hvx; rfl
      | sl n es off len => unfold AR at hvx; obtain ⟨ad, cap, rfl, _⟩ := hvx; rfl
      | agg cs => exact h1.elim
      | tup vs => exact h1.elim
      | fn f caps => unfold AR at hvx; obtain ⟨xs, rfl, _⟩ := hvx; rfl
      | mp n => unfold AR at hvx; obtain ⟨b, _, rfl⟩ := hvx; rfl

/-- in every world that holds the same in Z's blocks and these objects', the operation leaves x -/
def Yb (P : Program) (o : Oper) (x : Value) (a : Act) (w : World) (Z : Nat → Prop) (M : Nat → Option Nat) (ns : List Nat) : Prop := ∀ w', Agr Z M ns w w' → (execOp a.eval o).run P w' = .ok (.value x) w'
theorem Yb.of {o : Oper} {m : Sem Value} {x : Value} {ns : List Nat} (he : execOp a.eval o = (do pure (.value (← m)))) (h : ∀ w', Agr Z M ns w w' → m.run P w' = .ok x w') : Yb P o x a w Z M ns := by
  intro w' hw
  rw [he]
  simp [h w' hw]
theorem Yb.runs {o : Oper} {m : Sem Value} {x : Value} {ns : List Nat} (he : execOp a.eval o = (do pure (.value (← m)))) (h : Runs P m x) : Yb P o x a w Z M ns := Yb.of he fun w' _ => h w'

theorem bytes_run {src dst e : TypeId} {l : List Int} (hs : P.underlying src = some (.slice e)) (he : P.underlying e = some (.int .u8)) (hd : P.underlying dst = some .string) {x : Value} (hv : AR Z M w (.d (.lst 1 (li .u8 l))) x) :
    ∀ w' ns, Agr Z M ns w w' → (convert src dst x).run P w' = .ok (.string (strOfNums l)) w' := by
  intro w' ns hw
  unfold AR DR at hv
  obtain ⟨ad, cap, rfl, hl, hm, hc⟩ := hv
  have hll : (li .u8 l).length = l.length := by simp [li]
  by_cases hn : l.length = 0
  · obtain rfl : l = [] := List.eq_nil_of_length_eq_zero hn
    cases ad with
    | none => rw [run_convert_bytes_nil w' src e hs he _ _ dst hd]; rfl
    | some ad =>
      rw [run_convert_bytes_string w' src dst e _ _ cap hs he hd]
      rw [run_bytesToString w' ad _ cap [] (by simp [loadCells, loadCellsFrom, li])]
      rfl
  · obtain ⟨b, off, rfl, hz, hr⟩ := hc (by omega)
    refine run_convert_bytes_arg w' src e hs he b off _ cap l hll.symm (fun j hj => ?_) dst hd
    obtain ⟨y, hy, hdy⟩ := DRrow.get _ _ hr j (by omega)
    have hj' : j < l.length := by omega
    have e : (li .u8 l).getD j default = .c (.int .u8 (l.getD j 0)) := by simp [li, List.getD, hj']
    rw [e] at hdy
    unfold DR at hdy
    rw [cell_of_heap (hw.z b hz) (off + j)]
    have := hy.2 0 (by omega)
    rw [hdy.1] at this
    simpa [Value.cells] using this
theorem cvSA_sound (R : Rep c Z M s a w) {src dst e : TypeId} (hs : P.underlying src = some (.slice e)) (he : P.underlying e = some (.int .u8)) (hd : P.underlying dst = some .string) {v : AV} {x : Value} (hv : AR Z M w v x) {K : AV → Prop} (h : cvSA s v K) :
    ∃ l : List Int, (∀ w', Agr Z M (rdS v) w w' → (convert src dst x).run P w' = .ok (.string (strOfNums l)) w') ∧ K (.d (.c (.string (strOfNums l)))) := by
  unfold cvSA at h
  split at h
  · rename_i n off len
    obtain ⟨l, ho, hl, hk⟩ := h
    refine ⟨_, fun w' hw => ?_, hk⟩
    have hlen : ((l.drop off).take len).length = len := by rw [List.length_take, List.length_drop]; omega
    unfold AR at hv
    obtain ⟨ad, cap, rfl, hlc, hm, hc⟩ := hv
    by_cases hn : len = 0
    · subst hn
      rw [List.take_zero]
      cases ad with
      | none => rw [run_convert_bytes_nil w' src e hs he _ _ dst hd]; rfl
      | some ad =>
        rw [run_convert_bytes_string w' src dst e _ _ cap hs he hd]
        rw [run_bytesToString w' ad _ cap [] (by simp [loadCells, loadCellsFrom])]
        rfl
    · rcases hc (.inl (by omega)) with ⟨h1, h2, h3⟩ | ⟨b, h1, rfl, h3⟩
      · omega
      · obtain ⟨_, hb, hr⟩ := R.row_at ho h1
        refine run_convert_bytes_arg w' src e hs he b (off * 1) _ cap _ hlen (fun j hj => ?_) dst hd
        obtain ⟨y, hy, hdy⟩ := DRrow.get _ _ hr (off + j) (by simp [li]; omega)
        have e1 : (li .u8 l).getD (off + j) default = .c (.int .u8 (((l.drop off).take len).getD j 0)) := by
          simp only [li, List.getD, List.getElem?_map, List.getElem?_take, if_pos hj, List.getElem?_drop, List.getElem?_eq_getElem (show off + j < l.length by omega), Option.map_some, Option.getD_some]
        rw [e1] at hdy
        unfold DR at hdy
        rw [cell_of_heap (hw.m n (by simp [rdS]) b h1) (off * 1 + j)]
        have := hy.2 0 (by omega)
        rw [hdy.1] at this
        simpa [Value.cells] using this
  · unfold AR DR at hv
    obtain ⟨rfl, _⟩ := hv
    exact ⟨[], fun w' _ => by rw [run_convert_bytes_nil w' src e hs he _ _ dst hd]; rfl, h⟩
  · obtain ⟨l, rfl, hk⟩ := h
    exact ⟨l, fun w' hw => bytes_run hs he hd hv w' _ hw, hk⟩
theorem aggW_sound {v : AV} {x : Value} (hv : AR Z M w v x) {K : List AV → Prop} (h : aggW v K) : ∃ cs xs, K cs ∧ x = .agg xs ∧ ARs Z M w cs xs.toList := by
  unfold aggW at h
  split at h
  · unfold AR at hv
    obtain ⟨xs, rfl, hcs⟩ := hv
    exact ⟨_, _, h, rfl, by simpa using hcs⟩
  · unfold AR at hv
    obtain ⟨xs, rfl, hcs⟩ := (by unfold DR at hv; exact hv)
    exact ⟨_, _, h, rfl, by simpa using ARs.of_D hcs⟩
  · exact h.elim
theorem scK_run {t : TypeId} {b : Bool} (h : scK P t = some b) : (∀ w : World, (isAgg t).run P w = .ok false w) ∧ (b = false → ∃ k, P.underlying t = some (.int k)) ∧ (b = true → P.underlying t = some .bool) := by
  unfold scK at h
  split at h
  · rename_i k hk
    cases h
    exact ⟨fun w => by simp [isAgg, run_underlying hk], fun _ => ⟨k, hk⟩, fun h => by cases h⟩
  · rename_i hk
    cases h
    exact ⟨fun w => by simp [isAgg, run_underlying hk], fun h => (by cases h), fun _ => hk⟩
  · cases h
/-- two values of one cell -/
theorem eq1_sound {d : Nat} {t : TypeId} {b : Bool} (h : scK P t = some b) {ks : List Bool} {c e : AV} {cs ds : List AV} {x y : Value} (hx : AR Z M w c x) (hy : AR Z M w e y) {K : Bool → Prop} (hk : eqL (b :: ks) (c :: cs) (e :: ds) K) :
    ∃ r0, eqL ks cs ds (fun r => K (r0 && r)) ∧ ∀ w : World, (Op.equalIn (d + 1) t x y).run P w = .ok r0 w := by
  obtain ⟨_, h1, h2⟩ := scK_run h
  unfold eqL at hk
  split at hk
  · rename_i e1 _ _; cases e1
  · rename_i e1 e2 e3
    cases e1; cases e2; cases e3
    obtain ⟨rfl, hk⟩ := hk
    have hx0 := hx.c_.1
    have hy0 := hy.c_.1
    subst hx0 hy0
    obtain ⟨k2, hk2⟩ := h1 rfl
    exact ⟨_, hk, fun w => run_equalIn_int w d t _ k2 _ _ hk2⟩
  · rename_i e1 e2 e3
    cases e1; cases e2; cases e3
    have hx0 := hx.c_.1
    have hy0 := hy.c_.1
    subst hx0 hy0
    exact ⟨_, hk, fun w => run_equalIn_bool w d t _ _ (h2 rfl)⟩
  · exact hk.elim
theorem eqL_len : ∀ {ks : List Bool} {cs ds : List AV} {K : Bool → Prop}, eqL ks cs ds K → cs.length = ks.length ∧ ds.length = ks.length
  | [], [], [], _, _ => ⟨rfl, rfl⟩
  | ks, cs, ds, K, h => by
    unfold eqL at h
    split at h
    · exact ⟨rfl, rfl⟩
    · have := eqL_len h.2
      simp [this]
    · have := eqL_len h
      simp [this]
    · exact h.elim
theorem eqF_sound {d : Nat} {X Y : Array Value} : ∀ (fs : List Field) (off : Nat) (ks : List Bool) (cs ds : List AV) (xs ys : List Value), fsK P off fs = some ks → (∀ j, X[off + j]? = xs[j]?) → (∀ j, Y[off + j]? = ys[j]?) → ARs Z M w cs xs → ARs Z M w ds ys →
    ∀ {K : Bool → Prop}, eqL ks cs ds K → ∃ r, K r ∧ ∀ w : World, (Op.eqFields (d + 1) X Y fs).run P w = .ok r w
  | [], off, ks, cs, ds, xs, ys, ho, _, _, _, _, K, h => by
    unfold fsK at ho
    cases ho
    have hl := eqL_len h
    obtain rfl : cs = [] := List.eq_nil_of_length_eq_zero hl.1
    obtain rfl : ds = [] := List.eq_nil_of_length_eq_zero hl.2
    exact ⟨true, h, fun w => rfl⟩
  | f :: fs, off, ks, cs, ds, xs, ys, ho, hX, hY, hc, hd, K, h => by
    unfold fsK at ho
    split at ho
    · rename_i hf
      split at ho
      · rename_i b l hb hl
        cases ho
        have hlen := eqL_len h
        cases cs with
        | nil => simp at hlen
        | cons c cs =>
          cases ds with
          | nil => simp at hlen
          | cons e ds =>
            unfold ARs at hc hd
            obtain ⟨x0, xs', rfl, _, hx0, hc⟩ := hc
            obtain ⟨y0, ys', rfl, _, hy0, hd⟩ := hd
            obtain ⟨r0, h, hr0⟩ := eq1_sound (d := d) hb hx0 hy0 h
            obtain ⟨r, hr, hrun⟩ := eqF_sound (d := d) fs (off + 1) l cs ds xs' ys' hl (fun j => by rw [Nat.add_assoc, Nat.add_comm 1 j, hX (j + 1)]; rfl) (fun j => by rw [Nat.add_assoc, Nat.add_comm 1 j, hY (j + 1)]; rfl) hc hd h
            refine ⟨_, hr, fun w => ?_⟩
            have hagr := (scK_run hb).1
            have hX0 := hX 0
            have hY0 := hY 0
            rw [Nat.add_zero] at hX0 hY0
            have p1 : ∀ w : World, (part f.type X f.offset).run P w = .ok x0 w := fun w => by simp [part, hagr, hf.2, hX0]
            have p2 : ∀ w : World, (part f.type Y f.offset).run P w = .ok y0 w := fun w => by simp [part, hagr, hf.2, hY0]
            unfold Op.eqFields
            rw [if_pos hf.1]
            simp only [Sem.run_bind, p1, p2, Result.andThen_ok, hr0]
            cases r0
            · simp
            · simp only [Bool.not_true, Bool.false_eq_true, if_false, Bool.true_and]
              exact hrun w
      · cases ho
    · cases ho
theorem eqI_sound {d : Nat} {e : TypeId} {b : Bool} (hb : scK P e = some b) {X Y : Array Value} : ∀ (n off : Nat) (cs ds : List AV) (xs ys : List Value), (∀ j, X[off + j]? = xs[j]?) → (∀ j, Y[off + j]? = ys[j]?) → ARs Z M w cs xs → ARs Z M w ds ys →
    ∀ {K : Bool → Prop}, eqL (List.replicate n b) cs ds K → ∃ r, K r ∧ ∀ w : World, (Op.eqItems (d + 1) e 1 X Y (List.range' off n)).run P w = .ok r w
  | 0, off, cs, ds, xs, ys, _, _, _, _, K, h => by
    have hl := eqL_len h
    obtain rfl : cs = [] := List.eq_nil_of_length_eq_zero hl.1
    obtain rfl : ds = [] := List.eq_nil_of_length_eq_zero hl.2
    exact ⟨true, h, fun w => rfl⟩
  | n + 1, off, cs, ds, xs, ys, hX, hY, hc, hd, K, h => by
    rw [List.replicate_succ] at h
    have hlen := eqL_len h
    cases cs with
    | nil => simp at hlen
    | cons c cs =>
      cases ds with
      | nil => simp at hlen
      | cons e' ds =>
        unfold ARs at hc hd
        obtain ⟨x0, xs', rfl, _, hx0, hc⟩ := hc
        obtain ⟨y0, ys', rfl, _, hy0, hd⟩ := hd
        obtain ⟨r0, h, hr0⟩ := eq1_sound (d := d) hb hx0 hy0 h
        obtain ⟨r, hr, hrun⟩ := eqI_sound (d := d) hb n (off + 1) cs ds xs' ys' (fun j => by rw [Nat.add_assoc, Nat.add_comm 1 j, hX (j + 1)]; rfl) (fun j => by rw [Nat.add_assoc, Nat.add_comm 1 j, hY (j + 1)]; rfl) hc hd h
        refine ⟨_, hr, fun w => ?_⟩
        have hagr := (scK_run hb).1
        have hX0 := hX 0
        have hY0 := hY 0
        rw [Nat.add_zero] at hX0 hY0
        have p1 : ∀ w : World, (part e X (off * 1)).run P w = .ok x0 w := fun w => by simp [part, hagr, hX0]
        have p2 : ∀ w : World, (part e Y (off * 1)).run P w = .ok y0 w := fun w => by simp [part, hagr, hY0]
        rw [List.range'_succ]
        unfold Op.eqItems
        simp only [Sem.run_bind, p1, p2, Result.andThen_ok, hr0]
        cases r0
        · simp
        · simp only [Bool.not_true, Bool.false_eq_true, if_false, Bool.true_and]
          exact hrun w
theorem eqG_fin {t : TypeId} (hg : P.eqGuardType P.depth t = false) {neg : Bool} {ox oy : Operand} {xs ys : Array Value} {r : Bool} (he : ∀ w : World, (Op.equalIn 10000 t (.agg xs) (.agg ys)).run P w = .ok r w) :
    Runs P (do eqGuard (if neg = true then .neq else .eql) t ox oy (.agg xs) (.agg ys); binOp (if neg = true then .neq else .eql) t (.agg xs) (.agg ys)) (.bool (if neg = true then !r else r)) := fun w => by
  cases neg
  · simp only [Bool.false_eq_true, if_false, Sem.run_bind, run_eqGuard_agg w .eql t ox oy xs ys hg, Result.andThen_ok, run_eql_struct, he]
  · simp only [if_true, Sem.run_bind, run_eqGuard_agg w .neq t ox oy xs ys hg, Result.andThen_ok, run_neq_struct, he]
theorem eqG_sound {t : TypeId} {fields : Array Field} {ks : List Bool} (ht : P.underlying t = some (.struct fields)) (ho : fsK P 0 fields.toList = some ks) (hs : P.stoodInHeld t = false) (hg : P.eqGuardType P.depth t = false) {neg : Bool} {ox oy : Operand} {cs ds : List AV} {xs ys : Array Value} (hc : ARs Z M w cs xs.toList) (hd : ARs Z M w ds ys.toList) {K : Bool → Prop} (h : eqL ks cs ds K) :
    ∃ r, K r ∧ Runs P (do eqGuard (if neg = true then .neq else .eql) t ox oy (.agg xs) (.agg ys); binOp (if neg = true then .neq else .eql) t (.agg xs) (.agg ys)) (.bool (if neg = true then !r else r)) := by
  obtain ⟨r, hr, hrun⟩ := eqF_sound (P := P) (d := 9998) (X := xs) (Y := ys) fields.toList 0 ks cs ds xs.toList ys.toList ho (fun j => by rw [Nat.zero_add]; simp) (fun j => by rw [Nat.zero_add]; simp) hc hd h
  have hf : P.fieldsOf t = fields := by simp [Program.fieldsOf, ht]
  refine ⟨r, hr, eqG_fin hg fun w => ?_⟩
  rw [show (10000 : Nat) = 9999 + 1 from rfl, run_equalIn_struct w 9999 t xs ys (by rw [hf]; exact ht) hs, hf]
  exact hrun w
theorem eqA_sound {t e : TypeId} {len : Nat} {b : Bool} (ht : P.underlying t = some (.array len e)) (hb : scK P e = some b) (h1 : sizeT P e = some 1) (hg : P.eqGuardType P.depth t = false) {neg : Bool} {ox oy : Operand} {cs ds : List AV} {xs ys : Array Value} (hc : ARs Z M w cs xs.toList) (hd : ARs Z M w ds ys.toList) {K : Bool → Prop} (h : eqL (List.replicate len b) cs ds K) :
    ∃ r, K r ∧ Runs P (do eqGuard (if neg = true then .neq else .eql) t ox oy (.agg xs) (.agg ys); binOp (if neg = true then .neq else .eql) t (.agg xs) (.agg ys)) (.bool (if neg = true then !r else r)) := by
  obtain ⟨r, hr, hrun⟩ := eqI_sound (P := P) (d := 9998) hb (X := xs) (Y := ys) len 0 cs ds xs.toList ys.toList (fun j => by rw [Nat.zero_add]; simp) (fun j => by rw [Nat.zero_add]; simp) hc hd h
  obtain ⟨i, hi, hi1⟩ : ∃ i, P.info? e = some i ∧ i.size = 1 := by
    unfold sizeT at h1
    cases hq : P.info? e with
    | none => simp [hq] at h1
    | some i => exact ⟨i, rfl, by simpa [hq] using h1⟩
  have hcl : P.cellsOf e = 1 := by simp [Program.cellsOf, hi, hi1]
  refine ⟨r, hr, eqG_fin hg fun w => ?_⟩
  rw [show (10000 : Nat) = 9999 + 1 from rfl, run_equalIn_array w 9999 xs ys ht hi, hcl, List.range_eq_range']
  exact hrun w
end
end Go.Eng

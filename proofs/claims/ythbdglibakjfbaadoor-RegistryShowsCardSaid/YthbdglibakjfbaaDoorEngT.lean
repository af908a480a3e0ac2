/- What came in, as data: a value that is seen ('Sees', of Shape) is data of its type's shape ('Dk'). No condition but that the type has no maps, pointers, functions (deepOk). -/
import Derived.Test.YthbdglibakjfbaaDoorEngS
import Derived.Test.YthbdglibakjfbaaDoorShape
set_option linter.unusedSectionVars false
namespace Go.Eng
open Go.RowKit Go.Shp
variable [Inhabited Lo]

def tiles (P : Program) : List Field → Nat → Option Nat
  | [], o => some o
  | f :: fs, o => if f.offset = o then tiles P fs (o + P.cellsOf f.type) else none
def agT (P : Program) (t : TypeId) : Bool := match P.underlying t with
  | some d => isAggT d
  | none => false
def wrapD (P : Program) (t : TypeId) (ds : List D) : D := if agT P t = true then .agg ds else ds.headD default
def deepOk (P : Program) : Nat → TypeId → Bool
  | 0, _ => false
  | n + 1, t => match P.underlying t with
    | some .bool => true
    | some (.int _) => true
    | some .string => true
    | some (.slice e) => deepOk P n e && decide (P.cellsOf e ≠ 0)
    | some (.struct fs) => fs.toList.all (fun f => deepOk P n f.type) && decide (tiles P fs.toList 0 = some (P.cellsOf t))
    | some (.array m e) => deepOk P n e && decide (m * P.cellsOf e = P.cellsOf t)
    | _ => false
/-- the cells of a value of a type, as data -/
def Dk (P : Program) : Nat → TypeId → List D → Prop
  | 0, _, _ => True
  | n + 1, t, ds => match P.underlying t with
    | some .bool => ∃ b, ds = [.c (.bool b)]
    | some (.int k) => ∃ x, ds = [.c (.int k x)] ∧ (Lit.int k x).wf = true
    | some .string => ∃ s, ds = [.c (.string s)] ∧ s.size ≤ reachBytes
    | some (.slice e) => ∃ L, ds = [.lst (P.cellsOf e) L] ∧ L.length * P.bytesOf e ≤ reachBytes ∧ L.length ≤ maxLen ∧ ∀ x ∈ L, ∃ ds, x = wrapD P e ds ∧ Dk P n e ds
    | some (.struct fs) => ds.length = P.cellsOf t ∧ ∀ (i : Nat) (f : Field), fs[i]? = some f → Dk P n f.type ((ds.drop f.offset).take (P.cellsOf f.type))
    | some (.array m e) => ds.length = P.cellsOf t ∧ ∀ i : Nat, i < m → Dk P n e ((ds.drop (i * P.cellsOf e)).take (P.cellsOf e))
    | _ => False

section
variable {P : Program} {w : World} {Z : Nat → Prop}
theorem DRs.append : ∀ {ds : List D} {xs : List Value} {ds' : List D} {xs' : List Value}, DRs Z w ds xs → DRs Z w ds' xs' → DRs Z w (ds ++ ds') (xs ++ xs')
  | [], xs, ds', xs', h, k => by unfold DRs at h; subst h; exact k
  | d :: ds, xs, ds', xs', h, k => by
    unfold DRs at h
    obtain ⟨x, ys, rfl, h1, h2, h3⟩ := h
    rw [List.cons_append, List.cons_append]; unfold DRs
    exact ⟨x, ys ++ xs', rfl, h1, h2, DRs.append h3 k⟩
theorem take_take_add (cs : List Value) (o a b : Nat) : (cs.drop o).take (a + b) = (cs.drop o).take a ++ (cs.drop (o + a)).take b := by
  rw [List.take_add, List.drop_drop]

theorem tiles_le {P : Program} : ∀ (fs : List Field) (o q : Nat), tiles P fs o = some q → o ≤ q
  | [], o, q, h => by unfold tiles at h; injection h with h; omega
  | f :: fs, o, q, h => by
    unfold tiles at h
    split at h
    · have := tiles_le fs _ q h; omega
    · cases h
theorem tile_data {Q : Field → List D → Prop} {cs : List Value} : ∀ (fs : List Field) (o q : Nat), tiles P fs o = some q → q ≤ cs.length →
    (∀ f ∈ fs, ∃ ds, DRs Z w ds ((cs.drop f.offset).take (P.cellsOf f.type)) ∧ Q f ds) → ∃ ds, DRs Z w ds ((cs.drop o).take (q - o)) ∧ ∀ f ∈ fs, o ≤ f.offset ∧ Q f ((ds.drop (f.offset - o)).take (P.cellsOf f.type))
  | [], o, q, h, _, _ => by
    unfold tiles at h; injection h with h; subst h
    exact ⟨[], by unfold DRs; simp, by simp⟩
  | f :: fs, o, q, h, hq, hf => by
    unfold tiles at h
    split at h
    · rename_i ho
      subst ho
      have hle := tiles_le fs _ q h
      obtain ⟨ds, hd, hQ⟩ := hf f (by simp)
      obtain ⟨ds', hd', hQ'⟩ := tile_data fs _ q h hq fun g hg => hf g (by simp [hg])
      have hl := DRs.len _ _ hd
      have hl' : ds.length = P.cellsOf f.type := by
        rw [← hl]; simp; omega
      refine ⟨ds ++ ds', ?_, fun g hg => ?_⟩
      · rw [show q - f.offset = P.cellsOf f.type + (q - (f.offset + P.cellsOf f.type)) by omega, take_take_add]
        exact DRs.append hd hd'
      · rcases List.mem_cons.1 hg with rfl | hg
        · refine ⟨Nat.le_refl _, ?_⟩
          rw [Nat.sub_self, List.drop_zero, ← hl', List.take_left]
          exact hQ
        · obtain ⟨h1, h2⟩ := hQ' g hg
          refine ⟨by omega, ?_⟩
          rw [show g.offset - f.offset = ds.length + (g.offset - (f.offset + P.cellsOf f.type)) by omega, ← List.drop_drop, List.drop_left]
          exact h2
    · cases h
theorem arr_data {Q : List D → Prop} {cs : List Value} {s : Nat} : ∀ (m : Nat), m * s ≤ cs.length → (∀ i, i < m → ∃ ds, DRs Z w ds ((cs.drop (i * s)).take s) ∧ Q ds) →
    ∃ ds, DRs Z w ds (cs.take (m * s)) ∧ ∀ i, i < m → Q ((ds.drop (i * s)).take s)
  | 0, _, _ => ⟨[], by unfold DRs; simp, fun i hi => by omega⟩
  | m + 1, hq, h => by
    rw [Nat.add_mul, Nat.one_mul] at hq
    obtain ⟨ds, hd, hQ⟩ := arr_data m (by omega) fun i hi => h i (by omega)
    obtain ⟨ds', hd', hQ'⟩ := h m (by omega)
    have hl := DRs.len _ _ hd
    have hl1 : ds.length = m * s := by rw [← hl]; simp; omega
    have hl' := DRs.len _ _ hd'
    have hl2 : ds'.length = s := by rw [← hl']; simp; omega
    refine ⟨ds ++ ds', ?_, fun i hi => ?_⟩
    · rw [Nat.add_mul, Nat.one_mul, List.take_add]
      exact DRs.append hd hd'
    · by_cases him : i < m
      · have : i * s + s ≤ m * s := by
          have := Nat.mul_le_mul_right s (show i + 1 ≤ m by omega)
          rw [Nat.add_mul, Nat.one_mul] at this; exact this
        rw [List.drop_append_of_le_length (by omega), List.take_append_of_le_length (by rw [List.length_drop]; omega)]
        exact hQ i him
      · obtain rfl : i = m := by omega
        rw [List.drop_append, ← hl1, List.drop_length, Nat.sub_self, List.nil_append, List.drop_zero, ← hl2, List.take_length]
        exact hQ'

theorem wrap_of {n : Nat} {t : TypeId} {ds : List D} {cs : List Value} (hk : Dk P (n + 1) t ds) (h : DRs Z w ds cs) : ∃ x, x.cells = cs.toArray ∧ DR Z w (wrapD P t ds) x := by
  by_cases ha : agT P t = true
  · rw [wrapD, if_pos ha]
    exact ⟨.agg cs.toArray, rfl, by unfold DR; exact ⟨cs, rfl, h⟩⟩
  · rw [wrapD, if_neg ha]
    have one : ∀ d, ds = [d] → (∀ cs, d ≠ .agg cs) → ∃ x, x.cells = cs.toArray ∧ DR Z w (ds.headD default) x := by
      rintro d rfl hd
      unfold DRs at h
      obtain ⟨x, xs', rfl, h1, h2, h3⟩ := h
      unfold DRs at h3; subst h3
      exact ⟨x, (h2.one hd).2, h2⟩
    unfold Dk at hk
    split at hk
    · obtain ⟨b, rfl⟩ := hk; exact one _ rfl (fun _ e => by cases e)
    · obtain ⟨x, rfl, _⟩ := hk; exact one _ rfl (fun _ e => by cases e)
    · obtain ⟨x, rfl, _⟩ := hk; exact one _ rfl (fun _ e => by cases e)
    · obtain ⟨x, rfl, _⟩ := hk; exact one _ rfl (fun _ e => by cases e)
    · rename_i fs ht; exact absurd (by unfold agT; rw [ht]; rfl) ha
    · rename_i m e ht; exact absurd (by unfold agT; rw [ht]; rfl) ha
    · exact hk.elim
theorem list_dat {R : Nat → D → Prop} : ∀ (n : Nat), (∀ i, i < n → ∃ x, R i x) → ∃ L : List D, L.length = n ∧ ∀ i, i < n → R i (L.getD i default)
  | 0, _ => ⟨[], rfl, fun i hi => by omega⟩
  | n + 1, h => by
    obtain ⟨zs, hl, hz⟩ := list_dat n (fun i hi => h i (by omega))
    obtain ⟨z, hzn⟩ := h n (by omega)
    refine ⟨zs ++ [z], by simp [hl], fun i hi => ?_⟩
    by_cases hin : i < n
    · have := hz i hin
      simpa [List.getD, List.getElem?_append_left (show i < zs.length by omega)] using this
    · obtain rfl : i = n := by omega
      simpa [List.getD, ← hl] using hzn

theorem add_flat (b off i : Nat) : (⟨b, off, none⟩ : Addr).add i = ⟨b, off + i, none⟩ := by
  unfold Addr.add
  split
  · rename_i h; subst h; rfl
  · rfl
theorem data_of_sees : ∀ (n : Nat) (t : TypeId) (cs : List Value), deepOk P n t = true → Sees P w n t cs → ∃ ds, DRs (fun b => b < w.heap.size) w ds cs ∧ Dk P n t ds := by
  intro n
  induction n with
  | zero => intro t cs h; cases h
  | succ n ih =>
    intro t cs h hs
    have one : ∀ (v : Value), v.oneCell' = true → DRs (fun b => b < w.heap.size) w [.c v] [v] := fun v hv => by
      unfold DRs
      exact ⟨v, [], rfl, hv, by unfold DR; exact ⟨rfl, hv⟩, by unfold DRs; rfl⟩
    unfold deepOk at h; unfold Sees at hs; unfold Dk
    cases ht : P.underlying t with
    | none => rw [ht] at h; cases h
    | some d =>
      rw [ht] at h hs
      cases d with
      | bool => obtain ⟨b, rfl⟩ := hs; exact ⟨_, one _ rfl, b, rfl⟩
      | int k => obtain ⟨x, rfl, hx⟩ := hs; exact ⟨_, one _ rfl, x, rfl, hx⟩
      | string => obtain ⟨x, rfl, hx⟩ := hs; exact ⟨_, one _ rfl, x, rfl, hx⟩
      | slice e =>
        simp only [Bool.and_eq_true, decide_eq_true_eq] at h
        obtain ⟨h, hz⟩ := h
        obtain ⟨a, len, cap, rfl, hl, hm, hr, hn, hel⟩ := hs
        have fin : ∀ L : List D, L.length = len → (∀ x ∈ L, ∃ ds, x = wrapD P e ds ∧ Dk P n e ds) → (L.length ≠ 0 → ∃ b off, a = some ⟨b, off, none⟩ ∧ b < w.heap.size ∧ DRrow (fun b => b < w.heap.size) w (P.cellsOf e) b L off) →
            ∃ ds, DRs (fun b => b < w.heap.size) w ds [.slice a len cap] ∧ ∃ L, ds = [.lst (P.cellsOf e) L] ∧ L.length * P.bytesOf e ≤ reachBytes ∧ L.length ≤ maxLen ∧ ∀ x ∈ L, ∃ ds, x = wrapD P e ds ∧ Dk P n e ds := by
          rintro L rfl h1 h2
          refine ⟨[.lst (P.cellsOf e) L], ?_, L, rfl, ?_, by omega, h1⟩
          · unfold DRs
            exact ⟨_, [], rfl, rfl, by unfold DR; exact ⟨a, cap, rfl, hl, hm, h2⟩, by unfold DRs; rfl⟩
          · exact Nat.le_trans (Nat.mul_le_mul_right _ hl) hr
        cases a with
        | none =>
          obtain ⟨rfl, rfl⟩ := hn rfl
          exact fin [] rfl (by simp) (by simp)
        | some ad =>
          obtain ⟨b, off, spot⟩ := ad
          by_cases hlen0 : len = 0
          · subst hlen0; exact fin [] rfl (by simp) (by simp)
          have hspot : spot = none := by
            obtain ⟨es, hlen, hcells, hsee⟩ := hel _ rfl 0 (by omega)
            have hc0 := hcells 0 (by omega)
            obtain ⟨y, hy⟩ : ∃ y, es[0]? = some y := ⟨es[0]'(by omega), List.getElem?_eq_getElem _⟩
            rw [hy] at hc0
            simpa [Addr.add] using World.cell?_spot hc0
          subst hspot
          have step : ∀ i, i < len → ∃ x : D, (b < w.heap.size ∧ ∃ y, LoadsAs w b (off + i * P.cellsOf e) (P.cellsOf e) y ∧ DR (fun b => b < w.heap.size) w x y) ∧ ∃ ds, x = wrapD P e ds ∧ Dk P n e ds := by
            intro i hi
            obtain ⟨es, hlen, hcells, hsee⟩ := hel _ rfl i hi
            obtain ⟨ds, hd, hk⟩ := ih e es h hsee
            have hk' : ∃ m, n = m + 1 := by cases n with | zero => cases h | succ m => exact ⟨m, rfl⟩
            obtain ⟨m, rfl⟩ := hk'
            obtain ⟨x, hx1, hx2⟩ := wrap_of hk hd
            simp only [add_flat] at hcells
            have hc0 := hcells 0 (by omega)
            obtain ⟨y, hy⟩ : ∃ y, es[0]? = some y := ⟨es[0]'(by omega), List.getElem?_eq_getElem _⟩
            rw [hy] at hc0
            refine ⟨_, ⟨World.block_lt_of_cell? w _ hc0, x, ⟨by rw [hx1]; simpa using hlen, fun j hj => ?_⟩, hx2⟩, ds, rfl, hk⟩
            have := hcells j hj
            rw [hx1]
            simpa using this
          obtain ⟨L, hL, hLi⟩ := list_dat len step
          refine fin L hL (fun x hx => ?_) fun hne => ?_
          · obtain ⟨i, hi, rfl⟩ := List.getElem_of_mem hx
            have := (hLi i (by omega)).2
            simpa [List.getD, hi] using this
          · exact ⟨b, off, rfl, (hLi 0 (by omega)).1.1, DRrow.of L off fun i hi => (hLi i (by omega)).1.2⟩
      | struct fs =>
        simp only [Bool.and_eq_true, decide_eq_true_eq, List.all_eq_true] at h
        obtain ⟨h1, h2⟩ := h
        obtain ⟨hl, hf⟩ := hs
        obtain ⟨ds, hd, hQ⟩ := tile_data (P := P) (w := w) (Z := fun b => b < w.heap.size) (Q := fun f ds => Dk P n f.type ds) (cs := cs) fs.toList 0 _ h2 (by omega) fun f hm => by
          obtain ⟨i, hi, rfl⟩ := List.getElem_of_mem hm
          exact ih _ _ (h1 _ hm) (hf i _ (by simp at hi; simp [hi]))
        have e : (cs.drop 0).take (P.cellsOf t - 0) = cs := by simp [← hl]
        rw [e] at hd
        refine ⟨ds, hd, by rw [← DRs.len _ _ hd, hl], fun i f hi => ?_⟩
        have := (hQ f (by have := Array.mem_of_getElem? hi; simpa using this)).2
        simpa using this
      | array m e =>
        simp only [Bool.and_eq_true, decide_eq_true_eq] at h
        obtain ⟨h1, h2⟩ := h
        obtain ⟨hl, hf⟩ := hs
        obtain ⟨ds, hd, hQ⟩ := arr_data (w := w) (Z := fun b => b < w.heap.size) (Q := fun ds => Dk P n e ds) (cs := cs) (s := P.cellsOf e) m (by omega) fun i hi => ih _ _ h1 (hf i hi)
        rw [h2, ← hl, List.take_length] at hd
        exact ⟨ds, hd, by rw [← DRs.len _ _ hd, hl], hQ⟩
      | _ => cases h

/-! what the shapes say -/
variable {D' : Nat} {t : TypeId} {ds : List D}
theorem dk_int {k : IntKind} (ht : P.underlying t = some (.int k)) (h : Dk P (D' + 1) t ds) : ∃ x, ds = [.c (.int k x)] ∧ (Lit.int k x).wf = true := by
  unfold Dk at h; rw [ht] at h; exact h
theorem dk_bool (ht : P.underlying t = some .bool) (h : Dk P (D' + 1) t ds) : ∃ b, ds = [.c (.bool b)] := by
  unfold Dk at h; rw [ht] at h; exact h
theorem dk_string (ht : P.underlying t = some .string) (h : Dk P (D' + 1) t ds) : ∃ s, ds = [.c (.string s)] ∧ s.size ≤ 140737488351232 := by
  unfold Dk at h; rw [ht] at h; exact h
theorem dk_slice {e : TypeId} (ht : P.underlying t = some (.slice e)) (h : Dk P (D' + 1) t ds) : ∃ L, ds = [.lst (P.cellsOf e) L] ∧ L.length * P.bytesOf e ≤ 140737488351232 ∧ L.length ≤ maxLen ∧ ∀ x ∈ L, ∃ ds, x = wrapD P e ds ∧ Dk P D' e ds := by
  unfold Dk at h; rw [ht] at h; exact h
theorem dk_struct {fs : Array Field} (ht : P.underlying t = some (.struct fs)) (h : Dk P (D' + 1) t ds) (i : Nat) (f : Field) (hf : fs[i]? = some f) : Dk P D' f.type ((ds.drop f.offset).take (P.cellsOf f.type)) := by
  unfold Dk at h; rw [ht] at h; exact h.2 i f hf
theorem dk_array {m : Nat} {e : TypeId} (ht : P.underlying t = some (.array m e)) (h : Dk P (D' + 1) t ds) (i : Nat) (hi : i < m) : Dk P D' e ((ds.drop (i * P.cellsOf e)).take (P.cellsOf e)) := by
  unfold Dk at h; rw [ht] at h; exact h.2 i hi
theorem dk_lenS {fs : Array Field} (ht : P.underlying t = some (.struct fs)) (h : Dk P (D' + 1) t ds) : ds.length = P.cellsOf t := by
  unfold Dk at h; rw [ht] at h; exact h.1
theorem dk_lenA {m : Nat} {e : TypeId} (ht : P.underlying t = some (.array m e)) (h : Dk P (D' + 1) t ds) : ds.length = P.cellsOf t := by
  unfold Dk at h; rw [ht] at h; exact h.1
theorem list_map {α : Type} {f : α → D} {p : α → Prop} : ∀ {L : List D}, (∀ x ∈ L, ∃ y, x = f y ∧ p y) → ∃ ys : List α, L = ys.map f ∧ ∀ y ∈ ys, p y
  | [], _ => ⟨[], rfl, by simp⟩
  | x :: L, h => by
    obtain ⟨ys, rfl, hy⟩ := list_map (L := L) fun z hz => h z (by simp [hz])
    obtain ⟨y, rfl, hp⟩ := h x (by simp)
    exact ⟨y :: ys, rfl, by simpa using ⟨hp, hy⟩⟩
/-- a slice of whole numbers -/
theorem dk_ints {e : TypeId} {k : IntKind} {by_ : Nat} (ht : P.underlying t = some (.slice e)) (he : P.underlying e = some (.int k)) (hc : P.cellsOf e = 1) (hb : P.bytesOf e = by_) (h : Dk P (D' + 2) t ds) :
    ∃ zs : List Int, ds = [.lst 1 (li k zs)] ∧ zs.length * by_ ≤ 140737488351232 ∧ ∀ z ∈ zs, (Lit.int k z).wf = true := by
  obtain ⟨L, rfl, h1, h2, h3⟩ := dk_slice ht h
  obtain ⟨zs, rfl, hz⟩ := list_map (f := fun z => D.c (.int k z)) (p := fun z => (Lit.int k z).wf = true) fun x hx => by
    obtain ⟨ds, rfl, hd⟩ := h3 x hx
    obtain ⟨z, rfl, hz⟩ := dk_int he hd
    refine ⟨z, ?_, hz⟩
    rw [wrapD, if_neg (by unfold agT; rw [he]; simp [isAggT])]; rfl
  refine ⟨zs, by rw [hc]; rfl, ?_, hz⟩
  rw [hb] at h1
  simpa using h1
theorem DRt.nil' : DRt Z w [] [] := by unfold DRt; rfl
theorem DRt.cons' {d : D} {x : Value} {ds : List D} {xs : List Value} (h : DR Z w d x) (k : DRt Z w ds xs) : DRt Z w (d :: ds) (x :: xs) := by
  unfold DRt; exact ⟨x, xs, rfl, h, k⟩
theorem DR.of1 {d : D} {x : Value} (h : DRs Z w [d] [x]) : DR Z w d x := by
  unfold DRs at h
  obtain ⟨x', xs', e, _, h2, _⟩ := h
  injection e with e1 e2; subst e1; exact h2
theorem DR.ofN {ds : List D} {cs : Array Value} (h : DRs Z w ds cs.toList) : DR Z w (.agg ds) (.agg cs) := by
  unfold DR
  exact ⟨cs.toList, by simp, h⟩
end
end Go.Eng

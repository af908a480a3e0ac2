/- Where all pages' parts and directories are: the plan, and the reference's. No condition but what each says. -/
import Derived.Test.YtmgnjonpoeoeaaaWNext
set_option linter.unusedSimpArgs false
set_option linter.unusedVariables false
set_option maxRecDepth 8000
set_option maxHeartbeats 4000000
namespace Go.Proofs.Ytmgnjonpoeoeaaa
open Go.Eng Go.RowKit
def U (z : Int) : Prop := 0 ≤ z ∧ z < 18446744073709551616
theorem U.zero : U 0 := ⟨by decide, by decide⟩
theorem nx_u {a n : Int} (ha : U a) (hn : U n) : U (nx a n) := by
  unfold U at *
  unfold nx nxR
  split <;> omega
/-- the place ahead of thing k, of things of these sizes, the first one at a -/
def ep (l : List Int) (a : Int) : Nat → Int
  | 0 => a
  | k + 1 => nx (ep l a k) (l.getD k 0)
/-- do the first k things fit? -/
def gd (lg : Bool) (l : List Int) (a : Int) (k : Nat) : Prop := ∀ i, i < k → nxok lg (ep l a i) (l.getD i 0)
instance (lg : Bool) (l : List Int) (a : Int) (k : Nat) : Decidable (gd lg l a k) := by unfold gd; infer_instance
theorem ep_u {l : List Int} {a : Int} (ha : U a) (hl : In 18446744073709551616 l) : ∀ k, U (ep l a k)
  | 0 => ha
  | k + 1 => nx_u (ep_u ha hl k) (hl.get (by decide) k)
theorem gd_succ {lg : Bool} {l : List Int} {a : Int} {k : Nat} : gd lg l a (k + 1) ↔ gd lg l a k ∧ nxok lg (ep l a k) (l.getD k 0) := by
  constructor
  · intro h
    exact ⟨fun i hi => h i (by omega), h k (by omega)⟩
  · rintro ⟨h1, h2⟩ i hi
    by_cases e : i = k
    · rw [e]; exact h2
    · exact h1 i (by omega)
theorem ep_app {l m : List Int} {a : Int} : ∀ k, k ≤ l.length → ep (l ++ m) a k = ep l a k
  | 0, _ => rfl
  | k + 1, hk => by
    rw [ep, ep, ep_app k (by omega), getD_append, if_pos (by omega)]
theorem ep_app2 {l m : List Int} {a : Int} : ∀ k, ep (l ++ m) a (l.length + k) = ep m (ep l a l.length) k
  | 0 => by rw [Nat.add_zero, ep_app _ (Nat.le_refl _)]; rfl
  | k + 1 => by
    rw [← Nat.add_assoc, ep, ep, ep_app2 k, getD_append, if_neg (by omega), Nat.add_sub_cancel_left]
theorem gd_app {lg : Bool} {l m : List Int} {a : Int} {k : Nat} : gd lg (l ++ m) a (l.length + k) ↔ gd lg l a l.length ∧ gd lg m (ep l a l.length) k := by
  constructor
  · intro h
    refine ⟨fun i hi => ?_, fun i hi => ?_⟩
    · have := h i (by omega)
      rwa [ep_app i (by omega), getD_append, if_pos hi] at this
    · have := h (l.length + i) (by omega)
      rwa [ep_app2, getD_append, if_neg (by omega), Nat.add_sub_cancel_left] at this
  · rintro ⟨h1, h2⟩ i hi
    by_cases e : i < l.length
    · rw [ep_app i (by omega), getD_append, if_pos e]; exact h1 i e
    · obtain ⟨j, rfl⟩ : ∃ j, i = l.length + j := ⟨i - l.length, by omega⟩
      rw [ep_app2, getD_append, if_neg (by omega), Nat.add_sub_cancel_left]
      exact h2 j (by omega)
abbrev Pg := List Int × Int
/-- a page's things -/
def Pg.l (p : Pg) : List Int := p.1 ++ [p.2]
theorem Pg.len (p : Pg) : p.l.length = p.1.length + 1 := by simp [Pg.l]
def pgD (p : Pg) : D := .agg [.lst 1 (li .u64 p.1), .c (.int .u64 p.2)]
def pg (l : List Pg) (j : Nat) : Pg := l.getD j ([], 0)
/-- the place ahead of page j -/
def pa (l : List Pg) (a : Int) : Nat → Int
  | 0 => a
  | j + 1 => ep (pg l j).l (pa l a j) ((pg l j).1.length + 1)
def pok (lg : Bool) (l : List Pg) (a : Int) (j : Nat) : Prop := gd lg (pg l j).l (pa l a j) ((pg l j).1.length + 1)
instance (lg : Bool) (l : List Pg) (a : Int) (j : Nat) : Decidable (pok lg l a j) := by unfold pok; infer_instance
/-- page j, placed -/
def pl (l : List Pg) (a : Int) (j : Nat) : Pg := (tab (ep (pg l j).l (pa l a j)) (pg l j).1.length, ep (pg l j).l (pa l a j) (pg l j).1.length)
def tabP (f : Nat → Pg) : Nat → List Pg
  | 0 => []
  | n + 1 => tabP f n ++ [f n]
theorem tabP_len (f : Nat → Pg) : ∀ n, (tabP f n).length = n
  | 0 => rfl
  | n + 1 => by rw [tabP, List.length_append, tabP_len f n]; rfl
theorem tabP_get (f : Nat → Pg) : ∀ {n i : Nat}, i < n → pg (tabP f n) i = f i
  | n + 1, i, h => by
    rw [tabP, pg]
    simp only [List.getD, List.getElem?_append, tabP_len]
    by_cases c : i < n
    · rw [if_pos c]
      have := tabP_get f c
      simpa only [pg, List.getD] using this
    · obtain rfl : i = n := by omega
      rw [if_neg c, Nat.sub_self]
      rfl
theorem pgs_len (l : List Pg) : (l.map pgD).length = l.length := List.length_map ..
theorem pgs_get {l : List Pg} {j : Nat} (h : j < l.length) : (l.map pgD).getD j default = pgD (pg l j) := by
  simp only [List.getD, List.getElem?_map, List.getElem?_eq_getElem h, Option.map_some, Option.getD_some, pg]
/-- pages whose sizes are whole numbers of eight bytes, and can be -/
structure Ok (l : List Pg) : Prop where
  n : l.length * 32 ≤ 140737488351232
  p : ∀ j, j < l.length → (pg l j).1.length * 8 ≤ 140737488351232 ∧ In 18446744073709551616 (pg l j).1 ∧ U (pg l j).2
theorem Ok.l {l : List Pg} (h : Ok l) {j : Nat} (hj : j < l.length) : In 18446744073709551616 (pg l j).l := by
  obtain ⟨_, h2, h3⟩ := h.p j hj
  exact h2.app (In.one h3)
theorem Ok.pa {l : List Pg} (h : Ok l) {a : Int} (ha : U a) : ∀ j, j ≤ l.length → U (pa l a j)
  | 0, _ => ha
  | j + 1, hj => ep_u (h.pa ha j (by omega)) (h.l (by omega)) _
theorem Pg.get1 {p : Pg} {k : Nat} (h : k < p.1.length) : p.l.getD k 0 = p.1.getD k 0 := by rw [Pg.l, getD_append, if_pos h]
theorem Pg.get2 {p : Pg} : p.l.getD p.1.length 0 = p.2 := by rw [Pg.l, getD_append, if_neg (by omega), Nat.sub_self]; rfl
/-- behind k things: how it stands -/
def bd (lg : Bool) (l : List Int) (a : Int) (k : Nat) : Int := if gd lg l a k then 0 else 11
theorem bd_succ {lg : Bool} {l : List Int} {a : Int} {k : Nat} : (if nxok lg (ep l a k) (l.getD k 0) then bd lg l a k else 11) = bd lg l a (k + 1) := by
  unfold bd
  by_cases h1 : nxok lg (ep l a k) (l.getD k 0)
  · rw [if_pos h1]
    by_cases h2 : gd lg l a k
    · rw [if_pos h2, if_pos (gd_succ.2 ⟨h2, h1⟩)]
    · rw [if_neg h2, if_neg fun q => h2 (gd_succ.1 q).1]
  · rw [if_neg h1, if_neg fun q => h1 (gd_succ.1 q).2]
def hd (lg : Bool) : Int := if lg = true then 16 else 8
theorem hd_u (lg : Bool) : U (hd lg) := by cases lg <;> exact ⟨by decide, by decide⟩
theorem head_giv (lg : Bool) : Giv Try.prog 8 [.c (.bool lg)] (retV [.c (.int .i64 (hd lg))]) := by
  refine Giv.of mixed c8 (Nat.le_of_ble_eq_true rfl) ?_
  cases lg
  all_goals
    simp -dsimp -implicitDefEqProofs (disch := first | omega | (simp only [List.length_append, List.length_cons, List.length_nil, List.length_take, List.length_drop]; omega)) only [a8, ↓aPre, aPost, oneW, allOne, retV, retVA, ↓reduceIte, reduceCtorEq, Nat.reduceAdd, Nat.reduceSub, Nat.reduceMul, Nat.reduceLT, Nat.reduceLeDiff, Nat.reduceEqDiff, Nat.reduceDiv, Nat.reduceMod, Nat.reducePow, Int.reduceAdd, Int.reduceSub, Int.reduceMul, Int.reduceLT, Int.reduceLE, Int.reduceEq, Int.reduceNe, Int.reducePow, Int.reduceToNat, Int.reduceNeg]
    exact post_eq rfl
theorem stop_ex (P : Nat → Prop) : ∀ k, ∃ n, n ≤ k ∧ (∀ i, i < n → P i) ∧ (n = k ∨ ¬ P n)
  | 0 => ⟨0, Nat.le_refl _, fun i h => absurd h (Nat.not_lt_zero _), .inl rfl⟩
  | k + 1 => by
    obtain ⟨n, h1, h2, h3⟩ := stop_ex P k
    by_cases c : P n
    · obtain rfl : n = k := h3.resolve_right (fun h => h c)
      refine ⟨n + 1, Nat.le_refl _, fun i hi => ?_, .inl rfl⟩
      by_cases e : i = n
      · rw [e]; exact c
      · exact h2 i (by omega)
    · exact ⟨n, by omega, h2, .inr c⟩
/-- the plan: of the first n pages, if all of them fit; nothing, if page n does not -/
theorem plan_giv (lg : Bool) (l : List Pg) (h : Ok l) (n : Nat) (hn : n ≤ l.length) (hok : ∀ j, j < n → pok lg l (hd lg) j) (hend : n = l.length ∨ ¬ pok lg l (hd lg) n) :
    Giv Try.prog 6 [.lst 2 (l.map pgD), .c (.bool lg)] (retV (if n = l.length then [.lst 2 ((tabP (pl l (hd lg)) n).map pgD), .c (.int .u64 (pa l (hd lg) n)), .c (.int .i64 0)] else [.lst 2 [], .c (.int .u64 0), .c (.int .i64 11)])) := by
  have hu := hd_u lg
  have hlen := pgs_len l
  have hll := h.n
  refine Giv.of mixed c6 (Nat.le_of_ble_eq_true rfl) ?_
  simp -dsimp -implicitDefEqProofs (disch := first | omega | (simp only [List.length_append, List.length_cons, List.length_nil, List.length_take, List.length_drop]; omega)) only [a6, ↓aPre, aPost, oneW, allOne, retV, retVA, ↓reduceIte, reduceCtorEq, Nat.reduceAdd, Nat.reduceSub, Nat.reduceMul, Nat.reduceLT, Nat.reduceLeDiff, Nat.reduceEqDiff, Nat.reduceDiv, Nat.reduceMod, Nat.reducePow, Int.reduceAdd, Int.reduceSub, Int.reduceMul, Int.reduceLT, Int.reduceLE, Int.reduceEq, Int.reduceNe, Int.reducePow, Int.reduceToNat, Int.reduceNeg]
  refine call_giv (head_giv lg) ?_
  have hhd : 0 ≤ hd lg ∧ hd lg < 18446744073709551616 := hu
  simp -dsimp -implicitDefEqProofs (disch := first | omega | (simp only [List.length_append, List.length_cons, List.length_nil, List.length_take, List.length_drop]; omega)) only [hlen, ↓aPre, aPost, oneW, allOne, retV, retVA, ↓reduceIte, reduceCtorEq, Nat.reduceAdd, Nat.reduceSub, Nat.reduceMul, Nat.reduceLT, Nat.reduceLeDiff, Nat.reduceEqDiff, Nat.reduceDiv, Nat.reduceMod, Nat.reducePow, Int.reduceAdd, Int.reduceSub, Int.reduceMul, Int.reduceLT, Int.reduceLE, Int.reduceEq, Int.reduceNe, Int.reducePow, Int.reduceToNat, Int.reduceNeg]
  refine loop_nil 10 100 2 (fun s => ∃ (j : Nat), j ≤ n ∧ s.tm 22 = .d (.c (.int .i64 j)) ∧ s.tm 21 = .d (.c (.int .i64 l.length)) ∧ s.tm 20 = .d (.lst 2 (l.map pgD)) ∧ s.tm 10 = .sl 100 2 0 j ∧ s.hp 100 = some (.row 2 ((tabP (pl l (hd lg)) j).map pgD)) ∧ s.tm 9 = .fn 9 [.ptr 7 0, .ptr 3 0, .ptr 8 0] ∧ s.tm 7 = .ptr 7 0 ∧ s.tm 3 = .ptr 3 0 ∧ s.tm 8 = .ptr 8 0 ∧
    s.hp 7 = some (.box [.d (.c (.int .u64 (pa l (hd lg) j)))]) ∧ s.hp 3 = some (.box [.d (.c (.bool lg))]) ∧ s.hp 8 = some (.box [.d (.c (.int .i64 0))])) (fun s => l.length - (avN (s.tm 22)).toNat) ?_ (by decide) ?_ ?_
  · simp -dsimp -implicitDefEqProofs (disch := first | omega | (simp only [List.length_append, List.length_cons, List.length_nil, List.length_take, List.length_drop]; omega)) only [↓aPre, aPost, oneW, allOne, retV, retVA, ↓reduceIte, reduceCtorEq, Nat.reduceAdd, Nat.reduceSub, Nat.reduceMul, Nat.reduceLT, Nat.reduceLeDiff, Nat.reduceEqDiff, Nat.reduceDiv, Nat.reduceMod, Nat.reducePow, Int.reduceAdd, Int.reduceSub, Int.reduceMul, Int.reduceLT, Int.reduceLE, Int.reduceEq, Int.reduceNe, Int.reducePow, Int.reduceToNat, Int.reduceNeg]
  · refine ⟨0, Nat.zero_le _, ?_⟩
    simp -dsimp -implicitDefEqProofs (disch := first | omega | (simp only [List.length_append, List.length_cons, List.length_nil, List.length_take, List.length_drop]; omega)) only [tabP, pa, Int.natCast_zero, List.map_nil, ↓aPre, aPost, oneW, allOne, retV, retVA, ↓reduceIte, reduceCtorEq, Nat.reduceAdd, Nat.reduceSub, Nat.reduceMul, Nat.reduceLT, Nat.reduceLeDiff, Nat.reduceEqDiff, Nat.reduceDiv, Nat.reduceMod, Nat.reducePow, Int.reduceAdd, Int.reduceSub, Int.reduceMul, Int.reduceLT, Int.reduceLE, Int.reduceEq, Int.reduceNe, Int.reducePow, Int.reduceToNat, Int.reduceNeg]
  rintro s ⟨j, hj, hs⟩
  by_cases hlt : j < l.length
  rotate_left
  · obtain rfl : j = l.length := by omega
    obtain rfl : n = l.length := by omega
    have hcl : ((tabP (pl l (hd lg)) l.length).map pgD).length = l.length := by rw [pgs_len, tabP_len]
    simp -dsimp -implicitDefEqProofs (disch := first | omega | (simp only [List.length_append, List.length_cons, List.length_nil, List.length_take, List.length_drop]; omega)) only [hs, hlen, hcl, ↓aPre, aPost, oneW, allOne, retV, retVA, ↓reduceIte, reduceCtorEq, Nat.reduceAdd, Nat.reduceSub, Nat.reduceMul, Nat.reduceLT, Nat.reduceLeDiff, Nat.reduceEqDiff, Nat.reduceDiv, Nat.reduceMod, Nat.reducePow, Int.reduceAdd, Int.reduceSub, Int.reduceMul, Int.reduceLT, Int.reduceLE, Int.reduceEq, Int.reduceNe, Int.reducePow, Int.reduceToNat, Int.reduceNeg]
    exact post_eq (by rw [if_pos rfl])
  obtain ⟨p, hp⟩ : ∃ p, p = pg l j := ⟨_, rfl⟩
  obtain ⟨b, hb⟩ : ∃ b, b = pa l (hd lg) j := ⟨_, rfl⟩
  have hbu : U b := by rw [hb]; exact h.pa hu j (by omega)
  have hpl : In 18446744073709551616 p.l := by rw [hp]; exact h.l hlt
  obtain ⟨hp1, hp2, hp3⟩ := h.p j hlt
  rw [← hp] at hp1 hp2 hp3
  have eg : (l.map pgD).getD j default = pgD p := by rw [hp]; exact pgs_get hlt
  rw [← hb] at hs
  have hep : ∀ k, U (ep p.l b k) := ep_u hbu hpl
  have hs0 := hs.1
  simp -dsimp -implicitDefEqProofs (disch := first | omega | (simp only [List.length_append, List.length_cons, List.length_nil, List.length_take, List.length_drop]; omega)) only [hs, hlen, eg, pgD, ↓aPre, aPost, oneW, allOne, retV, retVA, ↓reduceIte, reduceCtorEq, Nat.reduceAdd, Nat.reduceSub, Nat.reduceMul, Nat.reduceLT, Nat.reduceLeDiff, Nat.reduceEqDiff, Nat.reduceDiv, Nat.reduceMod, Nat.reducePow, Int.reduceAdd, Int.reduceSub, Int.reduceMul, Int.reduceLT, Int.reduceLE, Int.reduceEq, Int.reduceNe, Int.reducePow, Int.reduceToNat, Int.reduceNeg]
  refine loop_nilB 13 0 101 1 [.d (.c (.slice none 0 0)), .d (.c (.int .u64 0))] (fun s => ∃ (k : Nat), k ≤ p.1.length ∧ s.tm 30 = .d (.c (.int .i64 k)) ∧ s.tm 29 = .d (.c (.int .i64 p.1.length)) ∧ s.tm 28 = .d (.lst 1 (li .u64 p.1)) ∧ s.tm 13 = .ptr 13 0 ∧ s.hp 13 = some (.box [.sl 101 1 0 k, .d (.c (.int .u64 0))]) ∧ s.hp 101 = some (.row 1 (li .u64 (tab (ep p.l b) k))) ∧
    s.tm 12 = .ptr 12 0 ∧ s.hp 12 = some (.box [.d (.lst 1 (li .u64 p.1)), .d (.c (.int .u64 p.2))]) ∧
    s.tm 22 = .d (.c (.int .i64 j)) ∧ s.tm 21 = .d (.c (.int .i64 l.length)) ∧ s.tm 20 = .d (.lst 2 (l.map pgD)) ∧ s.tm 10 = .sl 100 2 0 j ∧ s.hp 100 = some (.row 2 ((tabP (pl l (hd lg)) j).map pgD)) ∧ s.tm 9 = .fn 9 [.ptr 7 0, .ptr 3 0, .ptr 8 0] ∧ s.tm 7 = .ptr 7 0 ∧ s.tm 3 = .ptr 3 0 ∧ s.tm 8 = .ptr 8 0 ∧
    s.hp 7 = some (.box [.d (.c (.int .u64 (ep p.l b k)))]) ∧ s.hp 3 = some (.box [.d (.c (.bool lg))]) ∧ s.hp 8 = some (.box [.d (.c (.int .i64 (bd lg p.l b k)))])) (fun s => p.1.length - (avN (s.tm 30)).toNat) ?_ rfl (by decide) (by decide) ?_ ?_
  · simp -dsimp -implicitDefEqProofs (disch := first | omega | (simp only [List.length_append, List.length_cons, List.length_nil, List.length_take, List.length_drop]; omega)) only [hs, ↓aPre, aPost, oneW, allOne, retV, retVA, ↓reduceIte, reduceCtorEq, Nat.reduceAdd, Nat.reduceSub, Nat.reduceMul, Nat.reduceLT, Nat.reduceLeDiff, Nat.reduceEqDiff, Nat.reduceDiv, Nat.reduceMod, Nat.reducePow, Int.reduceAdd, Int.reduceSub, Int.reduceMul, Int.reduceLT, Int.reduceLE, Int.reduceEq, Int.reduceNe, Int.reducePow, Int.reduceToNat, Int.reduceNeg]
  · refine ⟨0, Nat.zero_le _, ?_⟩
    have e0 : bd lg p.l b 0 = 0 := if_pos fun i hi => absurd hi (Nat.not_lt_zero _)
    simp -dsimp -implicitDefEqProofs (disch := first | omega | (simp only [List.length_append, List.length_cons, List.length_nil, List.length_take, List.length_drop]; omega)) only [hs, tab, ep, e0, Int.natCast_zero, List.set_cons_zero, ↓aPre, aPost, oneW, allOne, retV, retVA, ↓reduceIte, reduceCtorEq, Nat.reduceAdd, Nat.reduceSub, Nat.reduceMul, Nat.reduceLT, Nat.reduceLeDiff, Nat.reduceEqDiff, Nat.reduceDiv, Nat.reduceMod, Nat.reducePow, Int.reduceAdd, Int.reduceSub, Int.reduceMul, Int.reduceLT, Int.reduceLE, Int.reduceEq, Int.reduceNe, Int.reducePow, Int.reduceToNat, Int.reduceNeg]
  rintro s ⟨k, hk, hs⟩
  have tl := tab_len (ep p.l b) k
  have hek := hep k
  by_cases hkl : k < p.1.length
  · have hz := hp2.get (by decide) k
    have em := next_m lg (ep p.l b k) (p.1.getD k 0) (bd lg p.l b k) hek hz
    rw [← Pg.get1 hkl, bd_succ, show nx (ep p.l b k) (p.l.getD k 0) = ep p.l b (k + 1) from rfl, Pg.get1 hkl] at em
    have et : tab (ep p.l b) (k + 1) = tab (ep p.l b) k ++ [ep p.l b k] := rfl
    simp -dsimp -implicitDefEqProofs (disch := first | omega | (simp only [List.length_append, List.length_cons, List.length_nil, List.length_take, List.length_drop]; omega)) only [hs, ↓aPre, aPost, oneW, allOne, retV, retVA, ↓reduceIte, reduceCtorEq, Nat.reduceAdd, Nat.reduceSub, Nat.reduceMul, Nat.reduceLT, Nat.reduceLeDiff, Nat.reduceEqDiff, Nat.reduceDiv, Nat.reduceMod, Nat.reducePow, Int.reduceAdd, Int.reduceSub, Int.reduceMul, Int.reduceLT, Int.reduceLE, Int.reduceEq, Int.reduceNe, Int.reducePow, Int.reduceToNat, Int.reduceNeg]
    refine call_mut em [(2000000, 7), (2000001, 3), (2000002, 8)] rfl rfl ?_ ?_
    · simp -dsimp -implicitDefEqProofs (disch := first | omega | (simp only [List.length_append, List.length_cons, List.length_nil, List.length_take, List.length_drop]; omega)) only [hs, ↓aPre, aPost, oneW, allOne, retV, retVA, ↓reduceIte, reduceCtorEq, Nat.reduceAdd, Nat.reduceSub, Nat.reduceMul, Nat.reduceLT, Nat.reduceLeDiff, Nat.reduceEqDiff, Nat.reduceDiv, Nat.reduceMod, Nat.reducePow, Int.reduceAdd, Int.reduceSub, Int.reduceMul, Int.reduceLT, Int.reduceLE, Int.reduceEq, Int.reduceNe, Int.reducePow, Int.reduceToNat, Int.reduceNeg]
    simp -dsimp -implicitDefEqProofs (disch := first | omega | (simp only [List.length_append, List.length_cons, List.length_nil, List.length_take, List.length_drop]; omega)) only [hs, tl, ↓aPre, aPost, oneW, allOne, retV, retVA, ↓reduceIte, reduceCtorEq, Nat.reduceAdd, Nat.reduceSub, Nat.reduceMul, Nat.reduceLT, Nat.reduceLeDiff, Nat.reduceEqDiff, Nat.reduceDiv, Nat.reduceMod, Nat.reducePow, Int.reduceAdd, Int.reduceSub, Int.reduceMul, Int.reduceLT, Int.reduceLE, Int.reduceEq, Int.reduceNe, Int.reducePow, Int.reduceToNat, Int.reduceNeg]
    refine round_of ⟨k + 1, by omega, ?_⟩ ?_
    · simp -dsimp -implicitDefEqProofs (disch := first | omega | (simp only [List.length_append, List.length_cons, List.length_nil, List.length_take, List.length_drop]; omega)) only [hs, tl, et, ↓aPre, aPost, oneW, allOne, retV, retVA, ↓reduceIte, reduceCtorEq, Nat.reduceAdd, Nat.reduceSub, Nat.reduceMul, Nat.reduceLT, Nat.reduceLeDiff, Nat.reduceEqDiff, Nat.reduceDiv, Nat.reduceMod, Nat.reducePow, Int.reduceAdd, Int.reduceSub, Int.reduceMul, Int.reduceLT, Int.reduceLE, Int.reduceEq, Int.reduceNe, Int.reducePow, Int.reduceToNat, Int.reduceNeg]
    · simp -dsimp -implicitDefEqProofs (disch := first | omega | (simp only [List.length_append, List.length_cons, List.length_nil, List.length_take, List.length_drop]; omega)) only [hs, ↓aPre, aPost, oneW, allOne, retV, retVA, ↓reduceIte, reduceCtorEq, Nat.reduceAdd, Nat.reduceSub, Nat.reduceMul, Nat.reduceLT, Nat.reduceLeDiff, Nat.reduceEqDiff, Nat.reduceDiv, Nat.reduceMod, Nat.reducePow, Int.reduceAdd, Int.reduceSub, Int.reduceMul, Int.reduceLT, Int.reduceLE, Int.reduceEq, Int.reduceNe, Int.reducePow, Int.reduceToNat, Int.reduceNeg]
      omega
  obtain rfl : k = p.1.length := by omega
  have em := next_m lg (ep p.l b p.1.length) p.2 (bd lg p.l b p.1.length) hek hp3
  rw [← Pg.get2, bd_succ, show nx (ep p.l b p.1.length) (p.l.getD p.1.length 0) = ep p.l b (p.1.length + 1) from rfl, Pg.get2] at em
  simp -dsimp -implicitDefEqProofs (disch := first | omega | (simp only [List.length_append, List.length_cons, List.length_nil, List.length_take, List.length_drop]; omega)) only [hs, ↓aPre, aPost, oneW, allOne, retV, retVA, ↓reduceIte, reduceCtorEq, Nat.reduceAdd, Nat.reduceSub, Nat.reduceMul, Nat.reduceLT, Nat.reduceLeDiff, Nat.reduceEqDiff, Nat.reduceDiv, Nat.reduceMod, Nat.reducePow, Int.reduceAdd, Int.reduceSub, Int.reduceMul, Int.reduceLT, Int.reduceLE, Int.reduceEq, Int.reduceNe, Int.reducePow, Int.reduceToNat, Int.reduceNeg]
  refine call_mut em [(2000000, 7), (2000001, 3), (2000002, 8)] rfl rfl ?_ ?_
  · simp -dsimp -implicitDefEqProofs (disch := first | omega | (simp only [List.length_append, List.length_cons, List.length_nil, List.length_take, List.length_drop]; omega)) only [hs, ↓aPre, aPost, oneW, allOne, retV, retVA, ↓reduceIte, reduceCtorEq, Nat.reduceAdd, Nat.reduceSub, Nat.reduceMul, Nat.reduceLT, Nat.reduceLeDiff, Nat.reduceEqDiff, Nat.reduceDiv, Nat.reduceMod, Nat.reducePow, Int.reduceAdd, Int.reduceSub, Int.reduceMul, Int.reduceLT, Int.reduceLE, Int.reduceEq, Int.reduceNe, Int.reducePow, Int.reduceToNat, Int.reduceNeg]
  have hcl : ((tabP (pl l (hd lg)) j).map pgD).length = j := by rw [pgs_len, tabP_len]
  by_cases hg : gd lg p.l b (p.1.length + 1)
  · have e0 : bd lg p.l b (p.1.length + 1) = 0 := if_pos hg
    have hjn : j < n := by
      rcases hend with rfl | q
      · exact hlt
      · refine Decidable.byContradiction fun c => ?_
        obtain rfl : j = n := by omega
        refine q ?_
        unfold pok
        rw [← hp, ← hb]
        exact hg
    have ea : pa l (hd lg) (j + 1) = ep p.l b (p.1.length + 1) := by rw [pa, ← hp, ← hb]
    have et : (tabP (pl l (hd lg)) (j + 1)).map pgD = (tabP (pl l (hd lg)) j).map pgD ++ [.agg [.lst 1 (li .u64 (tab (ep p.l b) p.1.length)), .c (.int .u64 (ep p.l b p.1.length))]] := by
      rw [tabP, List.map_append, pl, ← hp, ← hb]; rfl
    simp -dsimp -implicitDefEqProofs (disch := first | omega | (simp only [List.length_append, List.length_cons, List.length_nil, List.length_take, List.length_drop]; omega)) only [hs, e0, tl, hcl, ↓aPre, aPost, oneW, allOne, retV, retVA, ↓reduceIte, reduceCtorEq, Nat.reduceAdd, Nat.reduceSub, Nat.reduceMul, Nat.reduceLT, Nat.reduceLeDiff, Nat.reduceEqDiff, Nat.reduceDiv, Nat.reduceMod, Nat.reducePow, Int.reduceAdd, Int.reduceSub, Int.reduceMul, Int.reduceLT, Int.reduceLE, Int.reduceEq, Int.reduceNe, Int.reducePow, Int.reduceToNat, Int.reduceNeg]
    refine round_of ⟨j + 1, by omega, ?_⟩ ?_
    · simp -dsimp -implicitDefEqProofs (disch := first | omega | (simp only [List.length_append, List.length_cons, List.length_nil, List.length_take, List.length_drop]; omega)) only [hs, e0, tl, et, ea, hcl, ↓aPre, aPost, oneW, allOne, retV, retVA, ↓reduceIte, reduceCtorEq, Nat.reduceAdd, Nat.reduceSub, Nat.reduceMul, Nat.reduceLT, Nat.reduceLeDiff, Nat.reduceEqDiff, Nat.reduceDiv, Nat.reduceMod, Nat.reducePow, Int.reduceAdd, Int.reduceSub, Int.reduceMul, Int.reduceLT, Int.reduceLE, Int.reduceEq, Int.reduceNe, Int.reducePow, Int.reduceToNat, Int.reduceNeg]
    · simp -dsimp -implicitDefEqProofs (disch := first | omega | (simp only [List.length_append, List.length_cons, List.length_nil, List.length_take, List.length_drop]; omega)) only [hs, hs0, ↓aPre, aPost, oneW, allOne, retV, retVA, ↓reduceIte, reduceCtorEq, Nat.reduceAdd, Nat.reduceSub, Nat.reduceMul, Nat.reduceLT, Nat.reduceLeDiff, Nat.reduceEqDiff, Nat.reduceDiv, Nat.reduceMod, Nat.reducePow, Int.reduceAdd, Int.reduceSub, Int.reduceMul, Int.reduceLT, Int.reduceLE, Int.reduceEq, Int.reduceNe, Int.reducePow, Int.reduceToNat, Int.reduceNeg]
      omega
  · have e0 : bd lg p.l b (p.1.length + 1) = 11 := if_neg hg
    have hne : ¬ n = l.length := fun e => by
      have := hok j (by omega)
      unfold pok at this
      rw [← hp, ← hb] at this
      exact hg this
    simp -dsimp -implicitDefEqProofs (disch := first | omega | (simp only [List.length_append, List.length_cons, List.length_nil, List.length_take, List.length_drop]; omega)) only [hs, e0, ↓aPre, aPost, oneW, allOne, retV, retVA, ↓reduceIte, reduceCtorEq, Nat.reduceAdd, Nat.reduceSub, Nat.reduceMul, Nat.reduceLT, Nat.reduceLeDiff, Nat.reduceEqDiff, Nat.reduceDiv, Nat.reduceMod, Nat.reducePow, Int.reduceAdd, Int.reduceSub, Int.reduceMul, Int.reduceLT, Int.reduceLE, Int.reduceEq, Int.reduceNe, Int.reducePow, Int.reduceToNat, Int.reduceNeg]
    exact post_le (by rw [if_neg hne]; repeat (first | exact leD.nil | exact leE.refl _ | exact leE.nil _ | refine leD.cons ?_ ?_ | refine leE.agg ?_))
end Go.Proofs.Ytmgnjonpoeoeaaa

/- Rows of parcels in order, merged as they stand; sorting that keeps what is alike in its order; each two parcels as one. No condition but what each says. -/
set_option linter.unusedSimpArgs false
set_option linter.unusedVariables false
namespace Go.Proofs.Ytlchakkdgkbabaa
/-- a parcel: how often, of what -/
abbrev Pc := Int × List Int
def Srt (l : List Pc) : Prop := l.Pairwise fun x y => x.1 ≤ y.1
def mrg : List Pc → List Pc → List Pc
  | [], l => l
  | x :: a, [] => x :: a
  | x :: a, y :: b => if x.1 ≤ y.1 then x :: mrg a (y :: b) else y :: mrg (x :: a) b
termination_by a b => a.length + b.length
theorem mrg_nil_l (l : List Pc) : mrg [] l = l := by rw [mrg]
theorem mrg_nil_r (l : List Pc) : mrg l [] = l := by cases l <;> rw [mrg]
theorem mrg_le {x y : Pc} {a b : List Pc} (h : x.1 ≤ y.1) : mrg (x :: a) (y :: b) = x :: mrg a (y :: b) := by rw [mrg, if_pos h]
theorem mrg_gt {x y : Pc} {a b : List Pc} (h : ¬ x.1 ≤ y.1) : mrg (x :: a) (y :: b) = y :: mrg (x :: a) b := by rw [mrg, if_neg h]
theorem mrg_len (a b : List Pc) : (mrg a b).length = a.length + b.length := by
  induction a, b using mrg.induct with
  | case1 l => rw [mrg_nil_l]; simp
  | case2 x a => rw [mrg_nil_r]; simp
  | case3 x a y b h ih => rw [mrg_le h, List.length_cons, ih]; simp; omega
  | case4 x a y b h ih => rw [mrg_gt h, List.length_cons, ih]; simp; omega
theorem mrg_mem {z : Pc} (a b : List Pc) : z ∈ mrg a b ↔ z ∈ a ∨ z ∈ b := by
  induction a, b using mrg.induct with
  | case1 l => rw [mrg_nil_l]; simp
  | case2 x a => rw [mrg_nil_r]; simp
  | case3 x a y b h ih => rw [mrg_le h, List.mem_cons, ih]; simp [or_assoc]
  | case4 x a y b h ih =>
    rw [mrg_gt h, List.mem_cons, ih]
    simp only [List.mem_cons]
    constructor
    · rintro (h | (h | h) | h)
      · exact .inr (.inl h)
      · exact .inl (.inl h)
      · exact .inl (.inr h)
      · exact .inr (.inr h)
    · rintro ((h | h) | (h | h))
      · exact .inr (.inl (.inl h))
      · exact .inr (.inl (.inr h))
      · exact .inl h
      · exact .inr (.inr h)
theorem mrg_srt {a b : List Pc} (ha : Srt a) (hb : Srt b) : Srt (mrg a b) := by
  induction a, b using mrg.induct with
  | case1 l => rw [mrg_nil_l]; exact hb
  | case2 x a => rw [mrg_nil_r]; exact ha
  | case3 x a y b h ih =>
    rw [mrg_le h]
    obtain ⟨h1, h2⟩ := List.pairwise_cons.1 ha
    obtain ⟨h3, h4⟩ := List.pairwise_cons.1 hb
    refine List.pairwise_cons.2 ⟨fun z hz => ?_, ih h2 hb⟩
    rcases (mrg_mem _ _).1 hz with q | q
    · exact h1 z q
    · rcases List.mem_cons.1 q with rfl | q
      · exact h
      · have := h3 z q; omega
  | case4 x a y b h ih =>
    rw [mrg_gt h]
    obtain ⟨h1, h2⟩ := List.pairwise_cons.1 ha
    obtain ⟨h3, h4⟩ := List.pairwise_cons.1 hb
    refine List.pairwise_cons.2 ⟨fun z hz => ?_, ih ha h4⟩
    rcases (mrg_mem _ _).1 hz with q | q
    · rcases List.mem_cons.1 q with rfl | q
      · omega
      · have := h1 z q; omega
    · exact h3 z q
theorem mrg_perm (a b : List Pc) : (mrg a b).Perm (a ++ b) := by
  induction a, b using mrg.induct with
  | case1 l => rw [mrg_nil_l]; exact .refl _
  | case2 x a => rw [mrg_nil_r]; simp
  | case3 x a y b h ih => rw [mrg_le h]; exact ih.cons x
  | case4 x a y b h ih => rw [mrg_gt h]; exact (ih.cons y).trans List.perm_middle.symm
theorem mrg_assoc : ∀ (a b c : List Pc), mrg (mrg a b) c = mrg a (mrg b c)
  | [], b, c => by rw [mrg_nil_l, mrg_nil_l]
  | x :: a, [], c => by rw [mrg_nil_r, mrg_nil_l]
  | x :: a, y :: b, [] => by rw [mrg_nil_r, mrg_nil_r]
  | x :: a, y :: b, z :: c => by
    by_cases h1 : x.1 ≤ y.1
    · by_cases h2 : y.1 ≤ z.1
      · have h3 : x.1 ≤ z.1 := by omega
        rw [mrg_le h1, mrg_le h3, mrg_le h2, mrg_le h1, mrg_assoc a (y :: b) (z :: c), mrg_le h2]
      · by_cases h3 : x.1 ≤ z.1
        · rw [mrg_le h1, mrg_le h3, mrg_gt h2, mrg_le h3, mrg_assoc a (y :: b) (z :: c), mrg_gt h2]
        · rw [mrg_le h1, mrg_gt h3, ← mrg_le h1, mrg_gt h2, mrg_gt h3, mrg_assoc (x :: a) (y :: b) c]
    · by_cases h2 : y.1 ≤ z.1
      · rw [mrg_gt h1, mrg_le h2, mrg_le h2, mrg_gt h1, mrg_assoc (x :: a) b (z :: c)]
      · have h3 : ¬ x.1 ≤ z.1 := by omega
        rw [mrg_gt h1, mrg_gt h2, ← mrg_gt h1, mrg_gt h2, mrg_gt h3, mrg_assoc (x :: a) (y :: b) c]
termination_by a b c => a.length + b.length + c.length
/-- two rows that are cut so that what stands ahead comes ahead -/
theorem mrg_split : ∀ {X1 Y1 X2 Y2 : List Pc}, (∀ x ∈ X1, ∀ y ∈ Y2, x.1 ≤ y.1) → (∀ y ∈ Y1, ∀ x ∈ X2, y.1 < x.1) → mrg (X1 ++ X2) (Y1 ++ Y2) = mrg X1 Y1 ++ mrg X2 Y2
  | [], [], X2, Y2, _, _ => by rw [mrg_nil_l]; rfl
  | [], y :: Y1, [], Y2, h1, h2 => by rw [mrg_nil_l, List.nil_append, mrg_nil_l, mrg_nil_l]
  | [], y :: Y1, x :: X2, Y2, h1, h2 => by
    have h := h2 y (.head _) x (.head _)
    have ih := mrg_split (X1 := []) (Y1 := Y1) (X2 := x :: X2) (Y2 := Y2) h1 fun y hy => h2 y (.tail _ hy)
    rw [List.nil_append] at ih ⊢
    rw [List.cons_append, mrg_gt (by omega), ih, mrg_nil_l, mrg_nil_l, List.cons_append]
  | x :: X1, [], X2, [], h1, h2 => by simp only [List.nil_append, mrg_nil_r, List.cons_append]
  | x :: X1, [], X2, y :: Y2, h1, h2 => by
    have h := h1 x (.head _) y (.head _)
    have ih := mrg_split (X1 := X1) (Y1 := []) (X2 := X2) (Y2 := y :: Y2) (fun x hx => h1 x (.tail _ hx)) h2
    rw [List.nil_append] at ih ⊢
    rw [List.cons_append, mrg_le h, ih, mrg_nil_r, mrg_nil_r, List.cons_append]
  | x :: X1, y :: Y1, X2, Y2, h1, h2 => by
    by_cases h : x.1 ≤ y.1
    · have ih := mrg_split (X1 := X1) (Y1 := y :: Y1) (X2 := X2) (Y2 := Y2) (fun x hx => h1 x (.tail _ hx)) h2
      rw [List.cons_append, List.cons_append, mrg_le h, ← List.cons_append, ih, mrg_le h, List.cons_append]
    · have ih := mrg_split (X1 := x :: X1) (Y1 := Y1) (X2 := X2) (Y2 := Y2) h1 fun y hy => h2 y (.tail _ hy)
      rw [List.cons_append, List.cons_append, mrg_gt h, ← List.cons_append, ih, mrg_gt h, List.cons_append]
termination_by X1 Y1 => X1.length + Y1.length
def stab : List Pc → List Pc
  | [] => []
  | x :: l => mrg [x] (stab l)
theorem stab_app : ∀ (a b : List Pc), stab (a ++ b) = mrg (stab a) (stab b)
  | [], b => by rw [stab, mrg_nil_l]; rfl
  | x :: a, b => by rw [List.cons_append, stab, stab_app a b, stab, mrg_assoc]
theorem stab_len : ∀ (a : List Pc), (stab a).length = a.length
  | [] => rfl
  | x :: l => by rw [stab, mrg_len, stab_len l]; simp; omega
theorem stab_perm : ∀ (a : List Pc), (stab a).Perm a
  | [] => .refl _
  | x :: l => by rw [stab]; exact (mrg_perm _ _).trans ((stab_perm l).cons x)
theorem stab_isSrt : ∀ (a : List Pc), Srt (stab a)
  | [] => List.Pairwise.nil
  | x :: l => by rw [stab]; exact mrg_srt (by simp [Srt]) (stab_isSrt l)
theorem stab_srt : ∀ {a : List Pc}, Srt a → stab a = a
  | [], _ => rfl
  | x :: l, h => by
    obtain ⟨h1, h2⟩ := List.pairwise_cons.1 h
    rw [stab, stab_srt h2]
    cases l with
    | nil => rw [mrg_nil_r]
    | cons y l => rw [mrg_le (h1 y (.head _)), mrg_nil_l]
theorem stab_two {a b : List Pc} (ha : Srt a) (hb : Srt b) : stab (a ++ b) = mrg a b := by rw [stab_app, stab_srt ha, stab_srt hb]
/-- how many of the first r of two merged rows are of the first one -/
def na : List Pc → List Pc → Nat → Nat
  | _, _, 0 => 0
  | [], _, _ + 1 => 0
  | x :: a, [], r + 1 => na a [] r + 1
  | x :: a, y :: b, r + 1 => if x.1 ≤ y.1 then na a (y :: b) r + 1 else na (x :: a) b r
theorem na_0 (a b : List Pc) : na a b 0 = 0 := by cases a <;> cases b <;> rfl
theorem na_take : ∀ (r : Nat) (a b : List Pc), r ≤ a.length + b.length → na a b r ≤ a.length ∧ na a b r ≤ r ∧ r - na a b r ≤ b.length ∧ ((mrg a b).take r).Perm (a.take (na a b r) ++ b.take (r - na a b r))
  | 0, a, b, h => by rw [na_0]; simp
  | r + 1, [], b, h => by
    have e : na [] b (r + 1) = 0 := by cases b <;> rfl
    rw [e, mrg_nil_l]
    simp at h ⊢
    exact h
  | r + 1, x :: a, [], h => by
    obtain ⟨h1, h2, h3, h4⟩ := na_take r a [] (by simp at h ⊢; omega)
    rw [mrg_nil_r] at h4 ⊢
    rw [na, Nat.add_sub_add_right]
    refine ⟨by simp; exact h1, by omega, h3, ?_⟩
    simp only [List.take_succ_cons, List.cons_append]
    exact h4.cons x
  | r + 1, x :: a, y :: b, h => by
    by_cases c : x.1 ≤ y.1
    · obtain ⟨h1, h2, h3, h4⟩ := na_take r a (y :: b) (by simp at h ⊢; omega)
      rw [na, if_pos c, Nat.add_sub_add_right, mrg_le c]
      refine ⟨by simp; exact h1, by omega, h3, ?_⟩
      simp only [List.take_succ_cons, List.cons_append]
      exact h4.cons x
    · obtain ⟨h1, h2, h3, h4⟩ := na_take r (x :: a) b (by simp at h ⊢; omega)
      rw [na, if_neg c, mrg_gt c]
      refine ⟨h1, by omega, by simp; omega, ?_⟩
      rw [show r + 1 - na (x :: a) b r = (r - na (x :: a) b r) + 1 by omega]
      simp only [List.take_succ_cons]
      exact (h4.cons y).trans List.perm_middle.symm
def wt (l : List Pc) (i : Nat) : Int := (l.getD i (0, [])).1
theorem wt_mem {l : List Pc} {i : Nat} (h : i < l.length) : ∃ p, p ∈ l ∧ wt l i = p.1 ∧ l[i]? = some p := ⟨l[i], List.getElem_mem _, by simp [wt, List.getD, h], by simp [h]⟩
theorem wt_le {l : List Pc} (hs : Srt l) {i j : Nat} (hij : i ≤ j) (hj : j < l.length) : wt l i ≤ wt l j := by
  by_cases e : i = j
  · rw [e]; exact Int.le_refl _
  · have := List.pairwise_iff_getElem.1 hs i j (by omega) hj (by omega)
    simp only [wt, List.getD, List.getElem?_eq_getElem hj, List.getElem?_eq_getElem (show i < l.length by omega), Option.getD_some]
    exact this
/-- what isn't more than the last one that was taken of the second row was taken -/
theorem na_ge : ∀ (r : Nat) (a b : List Pc), Srt a → r ≤ a.length + b.length → 1 ≤ r - na a b r → ∀ t, t < a.length → wt a t ≤ wt b (r - na a b r - 1) → t < na a b r
  | 0, a, b, hs, h, hj => by omega
  | r + 1, [], b, hs, h, hj => fun t ht => by simp at ht
  | r + 1, x :: a, [], hs, h, hj => by
    have := (na_take (r + 1) (x :: a) [] h).2.2.1
    simp only [List.length_nil] at this
    omega
  | r + 1, x :: a, y :: b, hs, h, hj => fun t ht hw => by
    obtain ⟨h1, h2⟩ := List.pairwise_cons.1 hs
    by_cases c : x.1 ≤ y.1
    · rw [na, if_pos c] at hj hw ⊢
      rw [Nat.add_sub_add_right] at hj hw
      cases t with
      | zero => omega
      | succ t =>
        have := na_ge r a (y :: b) h2 (by simp at h ⊢; omega) hj t (by simpa using ht) hw
        omega
    · rw [na, if_neg c] at hj hw ⊢
      have hn := (na_take r (x :: a) b (by simp at h ⊢; omega)).2.1
      by_cases e : r - na (x :: a) b r = 0
      · rw [show r + 1 - na (x :: a) b r - 1 = 0 by omega] at hw
        have h3 := wt_le hs (Nat.zero_le t) ht
        have h4 : wt (x :: a) 0 = x.1 := rfl
        have h5 : wt (y :: b) 0 = y.1 := rfl
        omega
      · rw [show r + 1 - na (x :: a) b r - 1 = (r - na (x :: a) b r - 1) + 1 by omega] at hw
        exact na_ge r (x :: a) b hs (by simp at h ⊢; omega) (by omega) t ht hw
def ssum (l : List Pc) : Int := (l.map (·.1)).sum
theorem ssum_cons (x : Pc) (l : List Pc) : ssum (x :: l) = x.1 + ssum l := by simp [ssum]
theorem ssum_app (a b : List Pc) : ssum (a ++ b) = ssum a + ssum b := by simp [ssum]
theorem ssum_perm {a b : List Pc} (h : a.Perm b) : ssum a = ssum b := by
  induction h with
  | nil => rfl
  | cons x _ ih => rw [ssum_cons, ssum_cons, ih]
  | swap x y l => rw [ssum_cons, ssum_cons, ssum_cons, ssum_cons]; omega
  | trans _ _ ih1 ih2 => rw [ih1, ih2]
theorem take_ge {y : Pc} {b : List Pc} (hs : Srt (y :: b)) : ∀ {j : Nat}, j < (y :: b).length → y.1 + ssum (b.take j) ≤ y.1 + ssum (b.take j) := fun _ => Int.le_refl _
/-- in order, the first ones of a row are no more than the ones from the second one on -/
theorem take_shift : ∀ {y : Pc} {b : List Pc}, Srt (y :: b) → ∀ j, j < b.length + 1 → ∀ v, v ≤ y.1 → v + ssum ((y :: b).take j) ≤ ssum ((y :: b).take (j + 1))
  | y, b, hs, 0, hj, v, hv => by simp [ssum]; exact hv
  | y, [], hs, j + 1, hj, v, hv => by simp at hj
  | y, z :: b, hs, j + 1, hj, v, hv => by
    obtain ⟨h1, h2⟩ := List.pairwise_cons.1 hs
    have h3 := h1 z (.head _)
    have := take_shift h2 j (by simpa using hj) y.1 h3
    rw [List.take_succ_cons, List.take_succ_cons, ssum_cons, ssum_cons]
    omega
theorem take_le : ∀ (a b : List Pc), Srt a → Srt b → ∀ i j, i ≤ a.length → j ≤ b.length → ssum ((mrg a b).take (i + j)) ≤ ssum (a.take i) + ssum (b.take j)
  | [], b, _, _, i, j, hi, hj => by
    obtain rfl : i = 0 := by simpa using hi
    rw [mrg_nil_l, Nat.zero_add]
    simp [ssum]
  | x :: a, [], _, _, i, j, hi, hj => by
    obtain rfl : j = 0 := by simpa using hj
    rw [mrg_nil_r]
    simp [ssum]
  | x :: a, y :: b, ha, hb, i, j, hi, hj => by
    obtain ⟨h1, h2⟩ := List.pairwise_cons.1 ha
    obtain ⟨h3, h4⟩ := List.pairwise_cons.1 hb
    by_cases c : x.1 ≤ y.1
    · rw [mrg_le c]
      cases i with
      | succ i =>
        have := take_le a (y :: b) h2 hb i j (by simpa using hi) hj
        rw [show i + 1 + j = (i + j) + 1 by omega, List.take_succ_cons, List.take_succ_cons, ssum_cons, ssum_cons]
        omega
      | zero =>
        cases j with
        | zero => simp [ssum]
        | succ j =>
          have h5 := take_le a (y :: b) h2 hb 0 j (Nat.zero_le _) (by omega)
          have h6 := take_shift hb j (by simp at hj; omega) x.1 c
          rw [Nat.zero_add] at h5 ⊢
          rw [List.take_succ_cons, ssum_cons]
          have h7 : ssum (a.take 0) = 0 := by simp [ssum]
          have h8 : ssum ((x :: a).take 0) = 0 := by simp [ssum]
          omega
    · rw [mrg_gt c]
      cases j with
      | succ j =>
        have := take_le (x :: a) b ha h4 i j hi (by simpa using hj)
        rw [show i + (j + 1) = (i + j) + 1 by omega, List.take_succ_cons, List.take_succ_cons, ssum_cons, ssum_cons]
        omega
      | zero =>
        cases i with
        | zero => simp [ssum]
        | succ i =>
          have h5 := take_le (x :: a) b ha h4 i 0 (by omega) (Nat.zero_le _)
          have h6 := take_shift ha i (by simp at hi; omega) y.1 (by omega)
          rw [Nat.add_zero] at h5 ⊢
          rw [List.take_succ_cons, ssum_cons]
          have h7 : ssum (b.take 0) = 0 := by simp [ssum]
          have h8 : ssum ((y :: b).take 0) = 0 := by simp [ssum]
          omega
termination_by a b => a.length + b.length
def prs : List Pc → List Pc
  | x :: y :: l => (x.1 + y.1, x.2 ++ y.2) :: prs l
  | _ => []
theorem prs_cons (x y : Pc) (l : List Pc) : prs (x :: y :: l) = (x.1 + y.1, x.2 ++ y.2) :: prs l := rfl
theorem prs_len : ∀ l : List Pc, (prs l).length = l.length / 2
  | [] => rfl
  | [_] => by simp [prs]
  | x :: y :: l => by rw [prs_cons, List.length_cons, prs_len l]; simp; omega
def its (l : List Pc) : List Int := l.flatMap (·.2)
theorem its_cons (x : Pc) (l : List Pc) : its (x :: l) = x.2 ++ its l := rfl
theorem prs_take : ∀ (l : List Pc) (j : Nat), 2 * j ≤ l.length → ssum ((prs l).take j) = ssum (l.take (2 * j)) ∧ its ((prs l).take j) = its (l.take (2 * j))
  | l, 0, _ => by simp [ssum, its]
  | [], j + 1, h => by simp at h
  | [_], j + 1, h => by simp at h; omega
  | x :: y :: l, j + 1, h => by
    obtain ⟨h1, h2⟩ := prs_take l j (by simp at h; omega)
    rw [prs_cons, show 2 * (j + 1) = 2 * j + 1 + 1 by omega, List.take_succ_cons, List.take_succ_cons, List.take_succ_cons]
    constructor
    · rw [ssum_cons, ssum_cons, ssum_cons, h1]; simp; omega
    · rw [its_cons, its_cons, its_cons, h2, List.append_assoc]
theorem prs_wt : ∀ (l : List Pc) (j : Nat), 2 * j + 1 < l.length → wt (prs l) j = wt l (2 * j) + wt l (2 * j + 1)
  | [], j, h => by simp at h
  | [_], j, h => by simp at h
  | x :: y :: l, 0, h => rfl
  | x :: y :: l, j + 1, h => by
    have := prs_wt l j (by simp at h; omega)
    rw [prs_cons, show 2 * (j + 1) = 2 * j + 1 + 1 by omega]
    exact this
theorem prs_mem : ∀ {l : List Pc} {p : Pc}, p ∈ prs l → ∃ x y, x ∈ l ∧ y ∈ l ∧ p = (x.1 + y.1, x.2 ++ y.2)
  | [], p, h => by cases h
  | [_], p, h => by cases h
  | x :: y :: l, p, h => by
    rcases List.mem_cons.1 h with rfl | h
    · exact ⟨x, y, .head _, .tail _ (.head _), rfl⟩
    · obtain ⟨a, b, h1, h2, h3⟩ := prs_mem h
      exact ⟨a, b, .tail _ (.tail _ h1), .tail _ (.tail _ h2), h3⟩
theorem prs_srt : ∀ {l : List Pc}, Srt l → Srt (prs l)
  | [], _ => List.Pairwise.nil
  | [_], _ => List.Pairwise.nil
  | x :: y :: l, h => by
    obtain ⟨h1, h2⟩ := List.pairwise_cons.1 h
    obtain ⟨h3, h4⟩ := List.pairwise_cons.1 h2
    rw [prs_cons]
    refine List.pairwise_cons.2 ⟨fun p hp => ?_, prs_srt h4⟩
    obtain ⟨a, b, ha, hb, rfl⟩ := prs_mem hp
    have := h1 a (.tail _ ha)
    have := h3 b hb
    simp only
    omega
end Go.Proofs.Ytlchakkdgkbabaa

/- Package-merge in plain Lean: what the first parcels of the last list hold; the lengths fit; their cost is the least. No condition but what each says. -/
import Derived.Test.YtlchakkdgkbabaaLMrg
set_option linter.unusedSimpArgs false
set_option linter.unusedVariables false
namespace Go.Proofs.Ytlchakkdgkbabaa
def LL (sg : List Pc) : Nat → List Pc
  | 0 => []
  | k + 1 => mrg sg (prs (LL sg k))
def nak (sg : List Pc) (k r : Nat) : Nat := na sg (prs (LL sg k)) r
def SS (sg : List Pc) (k r : Nat) : Int := ssum ((LL sg k).take r)
structure Sg (sg : List Pc) (ids : List Int) : Prop where
  srt : Srt sg
  pos : ∀ p ∈ sg, 0 < p.1
  its : ∀ a, its (sg.take a) = ids.take a
  len : ids.length = sg.length
  nd : ids.Nodup
theorem LL_len (sg : List Pc) (k : Nat) : (LL sg (k + 1)).length = sg.length + (LL sg k).length / 2 := by rw [LL, mrg_len, prs_len]
theorem LL_srt {sg : List Pc} (h : Srt sg) : ∀ k, Srt (LL sg k)
  | 0 => List.Pairwise.nil
  | k + 1 => mrg_srt h (prs_srt (LL_srt h k))
theorem LL_pos {sg : List Pc} (h : ∀ p ∈ sg, 0 < p.1) : ∀ k, ∀ p ∈ LL sg k, 0 < p.1
  | 0, p, hp => by cases hp
  | k + 1, p, hp => by
    rcases (mrg_mem _ _).1 hp with q | q
    · exact h p q
    · obtain ⟨x, y, hx, hy, rfl⟩ := prs_mem q
      have := LL_pos h k x hx
      have := LL_pos h k y hy
      simp only
      omega
theorem LL_long (sg : List Pc) : ∀ (k c : Nat), sg.length ≤ c * 2 ^ k → 2 * sg.length ≤ (LL sg k).length + 2 * c
  | 0, c, h => by simp [LL] at h ⊢; omega
  | k + 1, c, h => by
    have := LL_long sg k (c * 2) (by rw [Nat.mul_assoc, ← Nat.pow_succ']; exact h)
    rw [LL_len]
    omega
theorem LL_long2 (sg : List Pc) : ∀ (k m : Nat), m ≤ k → m + 1 ≤ sg.length → 2 * m ≤ (LL sg k).length
  | 0, m, h, _ => by omega
  | k + 1, 0, _, _ => by omega
  | k + 1, m + 1, h, h2 => by
    have := LL_long2 sg k m (by omega) (by omega)
    rw [LL_len]
    omega
theorem nak_0 (sg : List Pc) (k : Nat) : nak sg k 0 = 0 := na_0 _ _
section
variable {sg : List Pc} {ids : List Int}
theorem nak_take (sg : List Pc) (k r : Nat) (h : r ≤ (LL sg (k + 1)).length) : nak sg k r ≤ sg.length ∧ nak sg k r ≤ r ∧ 2 * (r - nak sg k r) ≤ (LL sg k).length ∧ ((LL sg (k + 1)).take r).Perm (sg.take (nak sg k r) ++ (prs (LL sg k)).take (r - nak sg k r)) := by
  rw [LL_len] at h
  obtain ⟨h1, h2, h3, h4⟩ := na_take r sg (prs (LL sg k)) (by rw [prs_len]; exact h)
  refine ⟨h1, h2, ?_, h4⟩
  rw [prs_len] at h3
  unfold nak
  omega
theorem take_has (H : Sg sg ids) {k r t : Nat} (h : r ≤ (LL sg (k + 1)).length) (ht : t < nak sg k r) : wt sg t ≤ wt (LL sg (k + 1)) (r - 1) := by
  obtain ⟨h1, h2, h3, h4⟩ := nak_take sg k r h
  obtain ⟨p, hp, hw, hg⟩ := wt_mem (l := sg) (i := t) (by omega)
  have hm : p ∈ (LL sg (k + 1)).take r := h4.mem_iff.2 (List.mem_append_left _ (by
    rw [List.mem_iff_getElem?]
    exact ⟨t, by rw [List.getElem?_take_of_lt ht]; exact hg⟩))
  obtain ⟨i, hi⟩ := List.mem_iff_getElem?.1 hm
  have hir : i < r := by
    have := (List.getElem?_eq_some_iff.1 hi).1
    rw [List.length_take] at this
    omega
  rw [List.getElem?_take_of_lt hir] at hi
  have e : wt (LL sg (k + 1)) i = p.1 := by simp [wt, List.getD, hi]
  rw [hw, ← e]
  exact wt_le (LL_srt H.srt _) (by omega) (by omega)
theorem wt_two (H : Sg sg ids) {k j : Nat} (h : 2 * j + 1 < (LL sg k).length) : wt (LL sg k) (2 * j + 1) ≤ wt (prs (LL sg k)) j := by
  rw [prs_wt _ _ h]
  obtain ⟨p, hp, hw, _⟩ := wt_mem (l := LL sg k) (i := 2 * j) (by omega)
  have := LL_pos H.pos k p hp
  omega
theorem half (H : Sg sg ids) : ∀ (k m : Nat), 1 ≤ m → m + 1 ≤ sg.length → 2 * m ≤ (LL sg (k + 1)).length → m + 1 ≤ nak sg k (2 * m)
  | k, m, hm, hn, h => by
    refine Decidable.byContradiction fun c => ?_
    obtain ⟨h1, h2, h3, h4⟩ := nak_take sg k (2 * m) h
    cases k with
    | zero => simp [LL] at h3; omega
    | succ k =>
      have ih := half H k m hm hn (by omega)
      have h5 := take_has H (k := k) (r := 2 * m) (t := m) (by omega) (by omega)
      have h6 := wt_two H (k := k + 1) (j := m - 1) (by omega)
      rw [show 2 * (m - 1) + 1 = 2 * m - 1 by omega] at h6
      have h7 := wt_le (prs_srt (LL_srt H.srt (k + 1))) (i := m - 1) (j := 2 * m - nak sg (k + 1) (2 * m) - 1) (by omega) (by rw [prs_len]; omega)
      have h8 := na_ge (2 * m) sg (prs (LL sg (k + 1))) H.srt (by rw [prs_len]; rw [LL_len] at h; exact h) (by unfold nak at c; omega) m (by omega) (by
        show wt sg m ≤ wt (prs (LL sg (k + 1))) (2 * m - nak sg (k + 1) (2 * m) - 1)
        omega)
      exact c h8
theorem nested (H : Sg sg ids) {k r : Nat} (h : r ≤ (LL sg (k + 2)).length) : nak sg k (2 * (r - nak sg (k + 1) r)) ≤ nak sg (k + 1) r := by
  obtain ⟨h1, h2, h3, h4⟩ := nak_take sg (k + 1) r h
  by_cases e : r - nak sg (k + 1) r = 0
  · rw [e, Nat.mul_zero, nak_0]; exact Nat.zero_le _
  · by_cases e2 : nak sg k (2 * (r - nak sg (k + 1) r)) = 0
    · omega
    · obtain ⟨b, hb⟩ : ∃ b, b = r - nak sg (k + 1) r := ⟨_, rfl⟩
      rw [← hb] at e e2 h3 ⊢
      have g := nak_take sg k (2 * b) h3
      have h5 := take_has H (k := k) (r := 2 * b) (t := nak sg k (2 * b) - 1) h3 (by omega)
      have h6 := wt_two H (k := k + 1) (j := b - 1) (by omega)
      rw [show 2 * (b - 1) + 1 = 2 * b - 1 by omega] at h6
      have h8 := na_ge r sg (prs (LL sg (k + 1))) H.srt (by rw [prs_len]; rw [LL_len] at h; exact h) (by unfold nak at hb; omega) (nak sg k (2 * b) - 1) (by omega) (by
        rw [show r - na sg (prs (LL sg (k + 1))) r = b from hb.symm]
        omega)
      unfold nak at h8 ⊢
      omega
def cnt (sg : List Pc) (k r : Nat) (x : Int) : Nat := (its ((LL sg k).take r)).count x
theorem its_split (H : Sg sg ids) {k r : Nat} (h : r ≤ (LL sg (k + 1)).length) : (its ((LL sg (k + 1)).take r)).Perm (ids.take (nak sg k r) ++ its ((LL sg k).take (2 * (r - nak sg k r)))) := by
  obtain ⟨h1, h2, h3, h4⟩ := nak_take sg k r h
  have := h4.flatMap_right (·.2)
  rw [← (prs_take _ _ h3).2, ← H.its]
  refine this.trans ?_
  rw [List.flatMap_append]
  exact .refl _
theorem cnt_split (H : Sg sg ids) {k r : Nat} (h : r ≤ (LL sg (k + 1)).length) (x : Int) : cnt sg (k + 1) r x = (ids.take (nak sg k r)).count x + cnt sg k (2 * (r - nak sg k r)) x := by
  unfold cnt
  rw [(its_split H h).count_eq, List.count_append]
theorem take_count (H : Sg sg ids) (a : Nat) (x : Int) : (ids.take a).count x ≤ 1 := List.nodup_iff_count.1 (H.nd.sublist (List.take_sublist _ _)) x
theorem cnt_le (H : Sg sg ids) : ∀ (k r : Nat), r ≤ (LL sg k).length → ∀ x, cnt sg k r x ≤ k
  | 0, r, h, x => by simp [cnt, LL, its]
  | k + 1, r, h, x => by
    rw [cnt_split H h]
    have := take_count H (nak sg k r) x
    have := cnt_le H k _ (nak_take sg k r h).2.2.1 x
    omega
theorem its_in (H : Sg sg ids) : ∀ (k r : Nat), r ≤ (LL sg (k + 1)).length → ∀ x, x ∈ its ((LL sg (k + 1)).take r) → x ∈ ids.take (nak sg k r)
  | k, r, h, x, hx => by
    rcases List.mem_append.1 ((its_split H h).mem_iff.1 hx) with q | q
    · exact q
    · cases k with
      | zero => simp [LL, its] at q
      | succ k =>
        have h3 := (nak_take sg (k + 1) r h).2.2.1
        have := its_in H k _ h3 x q
        have hn := nested H h
        rw [← Nat.min_eq_left hn, ← List.take_take] at this
        exact List.mem_of_mem_take this
theorem cnt_0 (H : Sg sg ids) {k r : Nat} (h : r ≤ (LL sg (k + 1)).length) {x : Int} (hx : x ∉ ids.take (nak sg k r)) : cnt sg (k + 1) r x = 0 := List.count_eq_zero.2 fun c => hx (its_in H k r h x c)
theorem cnt_out (H : Sg sg ids) {k r : Nat} (h : r ≤ (LL sg k).length) {x : Int} (hx : x ∉ ids) : cnt sg k r x = 0 := by
  cases k with
  | zero => simp [cnt, LL, its]
  | succ k => exact cnt_0 H h fun c => hx (List.mem_of_mem_take c)
/-- what stands further ahead comes no less often -/
theorem cnt_mono (H : Sg sg ids) : ∀ (k r : Nat), r ≤ (LL sg k).length → ∀ i j, i ≤ j → j < ids.length → cnt sg k r (ids.getD j 0) ≤ cnt sg k r (ids.getD i 0)
  | 0, r, h, i, j, _, _ => by simp [cnt, LL, its]
  | k + 1, r, h, i, j, hij, hj => by
    rw [cnt_split H h, cnt_split H h]
    have ih := cnt_mono H k _ (nak_take sg k r h).2.2.1 i j hij hj
    have h1 := take_count H (nak sg k r) (ids.getD j 0)
    suffices (ids.take (nak sg k r)).count (ids.getD j 0) ≤ (ids.take (nak sg k r)).count (ids.getD i 0) by omega
    by_cases c : ids.getD j 0 ∈ ids.take (nak sg k r)
    · have hja : j < nak sg k r := by
        obtain ⟨q, hq⟩ := List.mem_iff_getElem?.1 c
        have hqa : q < nak sg k r := by
          have := (List.getElem?_eq_some_iff.1 hq).1
          rw [List.length_take] at this
          omega
        rw [List.getElem?_take_of_lt hqa] at hq
        have hql := (List.getElem?_eq_some_iff.1 hq).1
        have e : ids[q] = ids[j] := by
          rw [List.getElem?_eq_getElem hql, List.getD, List.getElem?_eq_getElem hj] at hq
          simpa using hq
        have := (List.getElem_inj (h₀ := hql) (h₁ := hj) H.nd).1 e
        omega
      have : ids.getD i 0 ∈ ids.take (nak sg k r) := by
        rw [List.mem_iff_getElem?]
        refine ⟨i, ?_⟩
        rw [List.getElem?_take_of_lt (by omega), List.getD, List.getElem?_eq_getElem (show i < ids.length by omega)]
        rfl
      have := List.count_pos_iff.2 this
      omega
    · rw [List.count_eq_zero.2 c]
      exact Nat.zero_le _
theorem pow_half {D c : Nat} (h : c + 1 ≤ D) : D - (c + 1) = D - 1 - c := by omega
def kr (f : Int → Nat) (D : Nat) (l : List Int) : Int := (l.map fun x => ((2 ^ (D - f x) : Nat) : Int)).sum
theorem kr_app (f : Int → Nat) (D : Nat) (a b : List Int) : kr f D (a ++ b) = kr f D a + kr f D b := by simp [kr]
theorem kr_congr {f g : Int → Nat} {D E : Nat} : ∀ {l : List Int}, (∀ x ∈ l, D - f x = E - g x) → kr f D l = kr g E l
  | [], _ => rfl
  | x :: l, h => by
    have := kr_congr (l := l) fun x hx => h x (.tail _ hx)
    simp only [kr, List.map_cons, List.sum_cons] at this ⊢
    rw [this, h x (.head _)]
theorem kr_0 {f : Int → Nat} {D : Nat} : ∀ {l : List Int}, (∀ x ∈ l, f x = 0) → kr f D l = l.length * ((2 ^ D : Nat) : Int)
  | [], _ => by simp [kr]
  | x :: l, h => by
    have := kr_0 (D := D) (l := l) fun x hx => h x (.tail _ hx)
    simp only [kr, List.map_cons, List.sum_cons, List.length_cons] at this ⊢
    rw [this, h x (.head _), Nat.sub_zero, Int.natCast_succ, Int.add_mul, Int.one_mul]
    omega
/-- the lengths fit whole -/
theorem kraft (H : Sg sg ids) : ∀ (k m D : Nat), k + 1 ≤ D → m + 1 ≤ sg.length → 2 * m ≤ (LL sg (k + 1)).length → kr (cnt sg (k + 1) (2 * m)) D (ids.take (nak sg k (2 * m))) = ((2 ^ D : Nat) : Int) * ((nak sg k (2 * m) : Int) - m)
  | k, m, D, hD, hm, h => by
    by_cases h0 : m = 0
    · subst h0
      rw [Nat.mul_zero, nak_0, List.take_zero]
      simp [kr]
    obtain ⟨a, ha⟩ : ∃ a, a = nak sg k (2 * m) := ⟨_, rfl⟩
    obtain ⟨h1, h2, h3, h4⟩ := nak_take sg k (2 * m) h
    have hh := half H k m (by omega) hm h
    rw [← ha] at h1 h2 h3 hh ⊢
    have e1 : kr (cnt sg (k + 1) (2 * m)) D (ids.take a) = kr (cnt sg k (2 * (2 * m - a))) (D - 1) (ids.take a) := kr_congr fun x hx => by
      have h5 := cnt_split H h x
      rw [← ha] at h5
      have h6 := take_count H a x
      have h7 := List.count_pos_iff.2 hx
      rw [h5]
      omega
    have hl : (ids.take a).length = a := by rw [List.length_take, H.len]; omega
    have hP : ((2 ^ D : Nat) : Int) = 2 * ((2 ^ (D - 1) : Nat) : Int) := by
      have : (2 : Nat) ^ D = 2 ^ (D - 1) * 2 := by rw [← Nat.pow_succ, show (D - 1).succ = D by omega]
      rw [this]
      omega
    rw [e1, hP]
    obtain ⟨p, hp⟩ : ∃ p : Int, p = ((2 ^ (D - 1) : Nat) : Int) := ⟨_, rfl⟩
    cases k with
    | zero =>
      have hz : 2 * m - a = 0 := by simp [LL] at h3; omega
      rw [kr_0 (fun x _ => by simp [cnt, LL, its]), hl, ← hp]
      have : (a : Int) = 2 * m := by omega
      rw [this, Int.mul_comm, Int.mul_assoc, Int.mul_left_comm, show (2 * (m : Int) - m) = m by omega]
    | succ k =>
      have ih := kraft H k (2 * m - a) (D - 1) (by omega) (by omega) h3
      have hn := nested H h
      rw [← ha] at hn
      obtain ⟨a', ha'⟩ : ∃ a', a' = nak sg k (2 * (2 * m - a)) := ⟨_, rfl⟩
      rw [← ha'] at ih hn
      have es : ids.take a = ids.take a' ++ (ids.drop a').take (a - a') := by
        rw [← List.take_append_drop a' (ids.take a), List.take_take, Nat.min_eq_left hn, List.drop_take]
      have hl2 : ((ids.drop a').take (a - a')).length = a - a' := by
        rw [List.length_take, List.length_drop, H.len]
        omega
      rw [es, kr_app, ih, kr_0 (l := (ids.drop a').take (a - a')), hl2, ← hp]
      · have e2 : ((a - a' : Nat) : Int) = a - a' := by omega
        have e3 : ((2 * m - a : Nat) : Int) = 2 * m - a := by omega
        rw [e2, e3]
        have : ((a : Int) - a') * p = p * ((a : Int) - a') := Int.mul_comm _ _
        rw [this, ← Int.mul_add, Int.mul_assoc, Int.mul_left_comm]
        congr 1
        omega
      · intro x hx
        refine cnt_0 H h3 fun c => ?_
        rw [← ha'] at c
        have hnd : (ids.take a).Nodup := H.nd.sublist (List.take_sublist _ _)
        rw [es] at hnd
        exact (List.nodup_append.1 hnd).2.2 x c x hx rfl
theorem SS_split (sg : List Pc) {k r : Nat} (h : r ≤ (LL sg (k + 1)).length) : SS sg (k + 1) r = ssum (sg.take (nak sg k r)) + SS sg k (2 * (r - nak sg k r)) := by
  obtain ⟨h1, h2, h3, h4⟩ := nak_take sg k r h
  unfold SS
  rw [ssum_perm h4, ssum_app, (prs_take _ _ h3).1]
theorem SS_min (H : Sg sg ids) {k i j : Nat} (hi : i ≤ sg.length) (hj : 2 * j ≤ (LL sg k).length) : SS sg (k + 1) (i + j) ≤ ssum (sg.take i) + SS sg k (2 * j) := by
  have := take_le sg (prs (LL sg k)) H.srt (prs_srt (LL_srt H.srt k)) i j hi (by rw [prs_len]; omega)
  rw [(prs_take _ _ hj).1] at this
  exact this
theorem LL_mono (sg : List Pc) : ∀ k, (LL sg k).length ≤ (LL sg (k + 1)).length
  | 0 => by simp [LL]
  | k + 1 => by
    have := LL_mono sg k
    rw [LL_len, LL_len sg (k + 1)]
    omega
theorem SS_anti (H : Sg sg ids) : ∀ (k r : Nat), r ≤ (LL sg k).length → SS sg (k + 1) r ≤ SS sg k r
  | 0, r, h => by
    obtain rfl : r = 0 := by simpa [LL] using h
    simp [SS, ssum]
  | k + 1, r, h => by
    obtain ⟨h1, h2, h3, h4⟩ := nak_take sg k r h
    have ih := SS_anti H k _ h3
    have hl : (LL sg k).length ≤ (LL sg (k + 1)).length := LL_mono sg k
    have := SS_min H (k := k + 1) h1 (j := r - nak sg k r) (by omega)
    rw [show nak sg k r + (r - nak sg k r) = r by omega] at this
    rw [SS_split sg h]
    omega
theorem SS_stay (H : Sg sg ids) : ∀ (k m : Nat), m < k → m + 1 ≤ sg.length → SS sg k (2 * m) ≤ SS sg (k + 1) (2 * m)
  | 0, m, h, _ => by omega
  | k + 1, m, h, hm => by
    by_cases h0 : m = 0
    · subst h0; simp [SS, ssum]
    have hl := LL_long2 sg (k + 1 + 1) m (by omega) hm
    obtain ⟨h1, h2, h3, h4⟩ := nak_take sg (k + 1) (2 * m) hl
    have hh := half H (k + 1) m (by omega) hm hl
    have ih := SS_stay H k (2 * m - nak sg (k + 1) (2 * m)) (by omega) (by omega)
    have hl2 := LL_long2 sg k (2 * m - nak sg (k + 1) (2 * m)) (by omega) (by omega)
    have := SS_min H (k := k) h1 (j := 2 * m - nak sg (k + 1) (2 * m)) hl2
    rw [show nak sg (k + 1) (2 * m) + (2 * m - nak sg (k + 1) (2 * m)) = 2 * m by omega] at this
    rw [SS_split sg hl]
    omega
theorem SS_same (H : Sg sg ids) {k m : Nat} (hk : m < k) (hm : m + 1 ≤ sg.length) : ∀ d, SS sg (k + d) (2 * m) = SS sg k (2 * m)
  | 0 => rfl
  | d + 1 => by
    have h1 := SS_stay H (k + d) m (by omega) hm
    have h2 := SS_anti H (k + d) (2 * m) (LL_long2 sg _ m (by omega) hm)
    have h3 := SS_same H hk hm d
    rw [Nat.add_succ]
    show SS sg (k + d + 1) (2 * m) = _
    omega
end
/-- only the weights count, and in proportion -/
theorem mrg_sc {c : Int} (hc : 0 < c) : ∀ (a b a' b' : List Pc), a'.map (·.1) = (a.map (·.1)).map (c * ·) → b'.map (·.1) = (b.map (·.1)).map (c * ·) → (mrg a' b').map (·.1) = ((mrg a b).map (·.1)).map (c * ·)
  | [], b, a', b', h1, h2 => by
    obtain rfl : a' = [] := by simpa using h1
    rw [mrg_nil_l, mrg_nil_l]; exact h2
  | x :: a, [], a', b', h1, h2 => by
    obtain rfl : b' = [] := by simpa using h2
    rw [mrg_nil_r, mrg_nil_r]; exact h1
  | x :: a, y :: b, [], b', h1, h2 => by simp at h1
  | x :: a, y :: b, x' :: a', [], h1, h2 => by simp at h2
  | x :: a, y :: b, x' :: a', y' :: b', h1, h2 => by
    have g1 := h1
    have g2 := h2
    simp only [List.map_cons, List.cons.injEq] at h1 h2
    by_cases q : x.1 ≤ y.1
    · have q' : x'.1 ≤ y'.1 := by rw [h1.1, h2.1]; exact Int.mul_le_mul_of_nonneg_left q (Int.le_of_lt hc)
      have := mrg_sc hc a (y :: b) a' (y' :: b') h1.2 g2
      rw [mrg_le q, mrg_le q', List.map_cons, List.map_cons, List.map_cons, this, h1.1]
    · have q' : ¬ x'.1 ≤ y'.1 := by
        rw [h1.1, h2.1]
        intro k
        exact q (Int.le_of_mul_le_mul_left k hc)
      have := mrg_sc hc (x :: a) b (x' :: a') b' g1 h2.2
      rw [mrg_gt q, mrg_gt q', List.map_cons, List.map_cons, List.map_cons, this, h2.1]
termination_by a b => a.length + b.length
theorem prs_sc (c : Int) : ∀ (a a' : List Pc), a'.map (·.1) = (a.map (·.1)).map (c * ·) → (prs a').map (·.1) = ((prs a).map (·.1)).map (c * ·)
  | [], a', h => by
    obtain rfl : a' = [] := by simpa using h
    rfl
  | [_], [], h => by simp at h
  | [_], [_], h => rfl
  | [_], _ :: _ :: _, h => by simp at h
  | x :: y :: a, [], h => by simp at h
  | x :: y :: a, [_], h => by simp at h
  | x :: y :: a, x' :: y' :: a', h => by
    simp only [List.map_cons, List.cons.injEq] at h
    rw [prs_cons, prs_cons, List.map_cons, List.map_cons, List.map_cons, prs_sc c a a' h.2.2, h.1, h.2.1, Int.mul_add]
theorem LL_sc {c : Int} (hc : 0 < c) {sg sg' : List Pc} (h : sg'.map (·.1) = (sg.map (·.1)).map (c * ·)) : ∀ k, (LL sg' k).map (·.1) = ((LL sg k).map (·.1)).map (c * ·)
  | 0 => rfl
  | k + 1 => mrg_sc hc _ _ _ _ h (prs_sc c _ _ (LL_sc hc h k))
theorem sum_sc (c : Int) : ∀ l : List Int, (l.map (c * ·)).sum = c * l.sum
  | [] => by simp
  | x :: l => by simp [sum_sc c l, Int.mul_add]
theorem SS_sc {c : Int} (hc : 0 < c) {sg sg' : List Pc} (h : sg'.map (·.1) = (sg.map (·.1)).map (c * ·)) (k r : Nat) : SS sg' k r = c * SS sg k r := by
  unfold SS ssum
  rw [List.map_take, LL_sc hc h k, ← List.map_take, sum_sc, List.map_take]
end Go.Proofs.Ytlchakkdgkbabaa

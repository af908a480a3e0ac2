/- The lengths of words, in plain Lean: of how often things come; what they cost; that they serve. No condition but what each says. -/
import Derived.Test.YtlchakkdgkbabaaLDp
set_option linter.unusedSimpArgs false
set_option linter.unusedVariables false
namespace Go.Proofs.Ytlchakkdgkbabaa
/-- those that come, of the first k -/
def sgl (of : List Int) : Nat → List Pc
  | 0 => []
  | k + 1 => if 0 < of.getD k 0 then sgl of k ++ [(of.getD k 0, [(k : Int)])] else sgl of k
theorem sgl_mem {of : List Int} {p : Pc} : ∀ {k : Nat}, p ∈ sgl of k ↔ ∃ i, i < k ∧ 0 < of.getD i 0 ∧ p = (of.getD i 0, [(i : Int)])
  | 0 => by simp [sgl]
  | k + 1 => by
    rw [sgl]
    by_cases c : 0 < of.getD k 0
    · rw [if_pos c, List.mem_append, sgl_mem, List.mem_singleton]
      constructor
      · rintro (⟨i, h1, h2, h3⟩ | h)
        · exact ⟨i, by omega, h2, h3⟩
        · exact ⟨k, by omega, c, h⟩
      · rintro ⟨i, h1, h2, h3⟩
        by_cases e : i = k
        · subst e; exact .inr h3
        · exact .inl ⟨i, by omega, h2, h3⟩
    · rw [if_neg c, sgl_mem]
      constructor
      · rintro ⟨i, h1, h2, h3⟩; exact ⟨i, by omega, h2, h3⟩
      · rintro ⟨i, h1, h2, h3⟩
        by_cases e : i = k
        · subst e; exact absurd h2 c
        · exact ⟨i, by omega, h2, h3⟩
theorem its_perm {a b : List Pc} (h : a.Perm b) : (its a).Perm (its b) := by
  unfold its
  exact h.flatMap_right _
theorem its_app (a b : List Pc) : its (a ++ b) = its a ++ its b := by simp [its]
theorem its_mem {l : List Pc} {x : Int} : x ∈ its l ↔ ∃ p ∈ l, x ∈ p.2 := by simp [its]
theorem sgl_its {of : List Int} {k : Nat} {x : Int} : x ∈ its (sgl of k) ↔ ∃ i : Nat, i < k ∧ 0 < of.getD i 0 ∧ x = i := by
  rw [its_mem]
  constructor
  · rintro ⟨p, hp, hx⟩
    obtain ⟨i, h1, h2, rfl⟩ := sgl_mem.1 hp
    exact ⟨i, h1, h2, by simpa using hx⟩
  · rintro ⟨i, h1, h2, rfl⟩
    exact ⟨_, sgl_mem.2 ⟨i, h1, h2, rfl⟩, by simp⟩
theorem sgl_nd (of : List Int) : ∀ k, (its (sgl of k)).Nodup
  | 0 => by simp [sgl, its]
  | k + 1 => by
    rw [sgl]
    by_cases c : 0 < of.getD k 0
    · rw [if_pos c, its_app]
      refine List.nodup_append.2 ⟨sgl_nd of k, by simp [its], fun x hx y hy e => ?_⟩
      obtain ⟨i, h1, h2, h3⟩ := sgl_its.1 hx
      have : y = k := by simpa [its] using hy
      omega
    · rw [if_neg c]; exact sgl_nd of k
theorem sgl_le (of : List Int) : ∀ k, (sgl of k).length ≤ k
  | 0 => Nat.le_refl _
  | k + 1 => by
    have := sgl_le of k
    rw [sgl]
    split
    · rw [List.length_append]; simp; omega
    · omega
def One (l : List Pc) : Prop := ∀ p ∈ l, ∃ i : Int, p.2 = [i]
theorem one_its : ∀ {l : List Pc}, One l → (its l).length = l.length ∧ ∀ a, its (l.take a) = (its l).take a
  | [], _ => ⟨rfl, fun a => by simp [its]⟩
  | x :: l, h => by
    obtain ⟨i, hi⟩ := h x (.head _)
    obtain ⟨h1, h2⟩ := one_its (l := l) fun p hp => h p (.tail _ hp)
    refine ⟨by rw [its_cons, hi]; simp [h1], fun a => ?_⟩
    cases a with
    | zero => simp [its]
    | succ a => rw [List.take_succ_cons, its_cons, its_cons, hi, h2 a]; simp
/-- those that come, in order -/
def sgs (of : List Int) : List Pc := stab (sgl of of.length)
theorem sgs_mem {of : List Int} {p : Pc} : p ∈ sgs of ↔ p ∈ sgl of of.length := (stab_perm _).mem_iff
theorem sgs_len (of : List Int) : (sgs of).length = (sgl of of.length).length := stab_len _
theorem sgs_its {of : List Int} {x : Int} : x ∈ its (sgs of) ↔ ∃ i : Nat, i < of.length ∧ 0 < of.getD i 0 ∧ x = i := by
  rw [← sgl_its]
  exact (its_perm (stab_perm _)).mem_iff
theorem sgs_sg (of : List Int) : Sg (sgs of) (its (sgs of)) := by
  have h1 : One (sgs of) := fun p hp => by
    obtain ⟨i, _, _, rfl⟩ := sgl_mem.1 (sgs_mem.1 hp)
    exact ⟨i, rfl⟩
  refine ⟨stab_isSrt _, fun p hp => ?_, (one_its h1).2, (one_its h1).1, ?_⟩
  · obtain ⟨i, _, h, rfl⟩ := sgl_mem.1 (sgs_mem.1 hp)
    exact h
  · exact (its_perm (stab_perm _)).nodup_iff.2 (sgl_nd of _)
/-- what is taken of the last list -/
def pk (of : List Int) (L : Nat) : List Int := its ((LL (sgs of) L).take (2 * ((sgs of).length - 1)))
def lenF (of : List Int) (L : Nat) (i : Nat) : Nat := cnt (sgs of) L (2 * ((sgs of).length - 1)) i
def vl (of : List Int) (x : Int) : Int := of.getD x.toNat 0
def Gd (of : List Int) (l : List Pc) : Prop := ∀ p ∈ l, p.1 = (p.2.map (vl of)).sum ∧ ∀ x ∈ p.2, 0 ≤ x ∧ x < of.length
theorem LL_gd (of : List Int) : ∀ k, Gd of (LL (sgs of) k)
  | 0 => fun p hp => by cases hp
  | k + 1 => fun p hp => by
    rcases (mrg_mem _ _).1 hp with q | q
    · obtain ⟨i, h1, h2, rfl⟩ := sgl_mem.1 (sgs_mem.1 q)
      refine ⟨by simp [vl], fun x hx => ?_⟩
      obtain rfl : x = i := by simpa using hx
      omega
    · obtain ⟨x, y, hx, hy, rfl⟩ := prs_mem q
      obtain ⟨a1, a2⟩ := LL_gd of k x hx
      obtain ⟨b1, b2⟩ := LL_gd of k y hy
      refine ⟨by simp [a1, b1], fun z hz => ?_⟩
      rcases List.mem_append.1 hz with h | h
      · exact a2 z h
      · exact b2 z h
theorem gd_sum {of : List Int} : ∀ {l : List Pc}, Gd of l → ssum l = ((its l).map (vl of)).sum ∧ ∀ x ∈ its l, 0 ≤ x ∧ x < of.length
  | [], _ => by simp [ssum, its]
  | p :: l, h => by
    obtain ⟨h1, h2⟩ := gd_sum (l := l) fun p hp => h p (.tail _ hp)
    obtain ⟨a1, a2⟩ := h p (.head _)
    refine ⟨by rw [ssum_cons, its_cons, List.map_append, List.sum_append_int, h1, a1], fun x hx => ?_⟩
    rw [its_cons] at hx
    rcases List.mem_append.1 hx with q | q
    · exact a2 x q
    · exact h2 x q
/-- the cost, thing by thing -/
def csF (of : List Int) (f : Nat → Int) : Nat → Int
  | 0 => 0
  | k + 1 => csF of f k + of.getD k 0 * f k
theorem csF_congr {of : List Int} {f g : Nat → Int} : ∀ {k : Nat}, (∀ i, i < k → f i = g i) → csF of f k = csF of g k
  | 0, _ => rfl
  | k + 1, h => by rw [csF, csF, csF_congr fun i hi => h i (by omega), h k (by omega)]
theorem csF_0 (of : List Int) : ∀ k, csF of (fun _ => 0) k = 0
  | 0 => rfl
  | k + 1 => by rw [csF, csF_0 of k]; simp
theorem csF_cons (of : List Int) (x : Int) (l : List Int) (hx : 0 ≤ x) : ∀ k, csF of (fun i => (((x :: l).count (i : Int) : Nat) : Int)) k = csF of (fun i => ((l.count (i : Int) : Nat) : Int)) k + (if x < k then vl of x else 0)
  | 0 => by rw [csF, csF, if_neg (by omega)]; rfl
  | k + 1 => by
    rw [csF, csF, csF_cons of x l hx k, List.count_cons]
    by_cases c : x = k
    · subst c
      rw [if_neg (Int.lt_irrefl _), if_pos (show (k : Int) < ((k + 1 : Nat) : Int) by omega), if_pos (by simp)]
      simp only [vl, Int.toNat_natCast, Int.natCast_add, Int.mul_add, Int.natCast_one, Int.mul_one]
      omega
    · have c' : ¬ (x == (k : Int)) = true := by simpa using c
      rw [if_neg c', Nat.add_zero]
      by_cases d : x < k
      · rw [if_pos d, if_pos (by omega)]; omega
      · rw [if_neg d, if_neg (by omega)]; omega
theorem csF_sum (of : List Int) : ∀ (l : List Int), (∀ x ∈ l, 0 ≤ x ∧ x < of.length) → csF of (fun i => ((l.count (i : Int) : Nat) : Int)) of.length = (l.map (vl of)).sum
  | [], _ => by simpa using csF_0 of of.length
  | x :: l, h => by
    have := h x (.head _)
    rw [csF_cons of x l this.1, csF_sum of l fun x hx => h x (.tail _ hx), if_pos this.2, List.map_cons, List.sum_cons]
    omega
theorem gd_take {of : List Int} {l : List Pc} (h : Gd of l) (r : Nat) : Gd of (l.take r) := fun p hp => h p (List.mem_of_mem_take hp)
/-- the lengths' cost is package-merge's -/
theorem cost_pm (of : List Int) (L : Nat) : csF of (fun i => (lenF of L i : Int)) of.length = SS (sgs of) L (2 * ((sgs of).length - 1)) := by
  obtain ⟨h1, h2⟩ := gd_sum (gd_take (LL_gd of L) (2 * ((sgs of).length - 1)))
  unfold SS
  rw [h1]
  exact csF_sum of _ h2
/-- the lengths serve: those of things that come are of 1 to L, those of others 0 -/
theorem lenF_in {of : List Int} {L : Nat} (h2 : 2 ≤ (sgs of).length) (hL : (sgs of).length ≤ 2 ^ L) {i : Nat} (hi : i < of.length) : (0 < of.getD i 0 → 1 ≤ lenF of L i ∧ lenF of L i ≤ L) ∧ (¬ 0 < of.getD i 0 → lenF of L i = 0) := by
  have H := sgs_sg of
  have hl := LL_long (sgs of) L 1 (by omega)
  have hl' : 2 * ((sgs of).length - 1) ≤ (LL (sgs of) L).length := by omega
  refine ⟨fun hp => ⟨?_, cnt_le H L _ hl' i⟩, fun hp => ?_⟩
  · cases L with
    | zero => simp at hL; omega
    | succ k =>
      have hh := half H k ((sgs of).length - 1) (by omega) (by omega) hl'
      have hn := (nak_take (sgs of) k _ hl').1
      unfold lenF
      rw [cnt_split H hl', show nak (sgs of) k (2 * ((sgs of).length - 1)) = (sgs of).length by omega, List.take_of_length_le (by rw [H.len]; exact Nat.le_refl _)]
      have := List.count_pos_iff.2 (sgs_its.2 ⟨i, hi, hp, rfl⟩)
      omega
  · refine cnt_out H hl' fun c => ?_
    obtain ⟨j, h3, h4, h5⟩ := sgs_its.1 c
    obtain rfl : i = j := by omega
    exact hp h4
/-- what comes more often has no longer a word -/
theorem lenF_order {of : List Int} {L : Nat} (h2 : 2 ≤ (sgs of).length) (hL : (sgs of).length ≤ 2 ^ L) {i k : Nat} (hi : i < of.length) (hk : k < of.length) (h : of.getD k 0 < of.getD i 0) (hp : 0 < of.getD k 0) : lenF of L i ≤ lenF of L k := by
  have H := sgs_sg of
  have hl := LL_long (sgs of) L 1 (by omega)
  have hl' : 2 * ((sgs of).length - 1) ≤ (LL (sgs of) L).length := by omega
  have key : ∀ i : Nat, i < of.length → 0 < of.getD i 0 → ∃ q, q < (sgs of).length ∧ (its (sgs of)).getD q 0 = i ∧ wt (sgs of) q = of.getD i 0 := fun i hi hp => by
    have hm : (of.getD i 0, [(i : Int)]) ∈ sgs of := sgs_mem.2 (sgl_mem.2 ⟨i, hi, hp, rfl⟩)
    obtain ⟨q, hq, he⟩ := List.mem_iff_getElem.1 hm
    refine ⟨q, hq, ?_, by simp [wt, List.getD, hq, he]⟩
    have e1 : its ((sgs of).take (q + 1)) = its ((sgs of).take q) ++ [(i : Int)] := by
      rw [List.take_succ_eq_append_getElem hq, its_app, he]
      rfl
    rw [H.its, H.its] at e1
    have hql : q < (its (sgs of)).length := by rw [H.len]; exact hq
    rw [List.take_succ_eq_append_getElem hql] at e1
    have := List.append_cancel_left e1
    simp [List.getD, hql] at this ⊢
    exact this
  obtain ⟨p, p1, p2, p3⟩ := key i hi (by omega)
  obtain ⟨q, q1, q2, q3⟩ := key k hk hp
  have hqp : q ≤ p := by
    refine Decidable.byContradiction fun c => ?_
    have := wt_le H.srt (i := p) (j := q) (by omega) q1
    omega
  have := cnt_mono H L _ hl' q p hqp (by rw [H.len]; exact p1)
  rw [p2, q2] at this
  exact this
/-- the parts of one word that the lengths take -/
def krF (of : List Int) (f : Nat → Nat) (D : Nat) : Nat → Int
  | 0 => 0
  | k + 1 => krF of f D k + (if 0 < of.getD k 0 then ((2 ^ (D - f k) : Nat) : Int) else 0)
theorem kr_perm {f : Int → Nat} {D : Nat} {a b : List Int} (h : a.Perm b) : kr f D a = kr f D b := by
  induction h with
  | nil => rfl
  | cons x _ ih => simp only [kr, List.map_cons, List.sum_cons] at ih ⊢; rw [ih]
  | swap x y l => simp only [kr, List.map_cons, List.sum_cons]; omega
  | trans _ _ ih1 ih2 => rw [ih1, ih2]
theorem krF_its (of : List Int) (g : Int → Nat) (D : Nat) : ∀ k, krF of (fun i => g i) D k = kr g D (its (sgl of k))
  | 0 => by simp [krF, sgl, its, kr]
  | k + 1 => by
    rw [krF, sgl, krF_its of g D k]
    by_cases c : 0 < of.getD k 0
    · rw [if_pos c, if_pos c, its_app, kr_app]
      simp [its, kr]
    · rw [if_neg c, if_neg c, Int.add_zero]
theorem kraft_F {of : List Int} {L D : Nat} (h2 : 2 ≤ (sgs of).length) (hL : (sgs of).length ≤ 2 ^ L) (hD : L ≤ D) : krF of (lenF of L) D of.length = ((2 ^ D : Nat) : Int) := by
  have H := sgs_sg of
  have hl := LL_long (sgs of) L 1 (by omega)
  have hl' : 2 * ((sgs of).length - 1) ≤ (LL (sgs of) L).length := by omega
  cases L with
  | zero => simp at hL; omega
  | succ k =>
    have hh := half H k ((sgs of).length - 1) (by omega) (by omega) hl'
    have hn := (nak_take (sgs of) k _ hl').1
    have e : nak (sgs of) k (2 * ((sgs of).length - 1)) = (sgs of).length := by omega
    have := kraft H k ((sgs of).length - 1) D hD (by omega) hl'
    rw [e, List.take_of_length_le (by rw [H.len]; exact Nat.le_refl _)] at this
    show krF of (fun i => cnt (sgs of) (k + 1) (2 * ((sgs of).length - 1)) i) D of.length = _
    rw [krF_its of (cnt (sgs of) (k + 1) (2 * ((sgs of).length - 1))) D, ← kr_perm (its_perm (stab_perm (sgl of of.length)))]
    refine this.trans ?_
    rw [show (((sgs of).length : Int) - (((sgs of).length - 1 : Nat) : Int)) = 1 by omega, Int.mul_one]
end Go.Proofs.Ytlchakkdgkbabaa

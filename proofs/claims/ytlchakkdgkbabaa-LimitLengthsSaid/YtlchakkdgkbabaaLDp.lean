/- The least cost, level by level: what is reached costs no less than package-merge's, and its is reached. No condition but what each says. -/
import Derived.Test.YtlchakkdgkbabaaLPm
set_option linter.unusedSimpArgs false
set_option linter.unusedVariables false
namespace Go.Proofs.Ytlchakkdgkbabaa
/-- so many levels, so many words given, so many places open, the cost -/
inductive Rch (W : Nat → Int) (n : Nat) : Nat → Nat → Nat → Int → Prop
  | zero : Rch W n 0 0 1 0
  | step {t g o : Nat} {v : Int} (here : Nat) : Rch W n t g o v → o ≤ n - g → here ≤ 2 * o → g + here ≤ n → Rch W n (t + 1) (g + here) (min (2 * o - here) (n - g - here)) (v + W (n - g))
inductive Tgo (W : Nat → Int) (n : Nat) : Nat → Nat → Nat → Int → Prop
  | zero : Tgo W n 0 n 0 0
  | step {k g o : Nat} {u : Int} (here : Nat) : o ≤ n - g → here ≤ 2 * o → g + here ≤ n → Tgo W n k (g + here) (min (2 * o - here) (n - g - here)) u → Tgo W n (k + 1) g o (u + W (n - g))
theorem Rch.tgo {W : Nat → Int} {n t g o : Nat} {v : Int} (h : Rch W n t g o v) : ∀ {k : Nat} {u : Int}, Tgo W n k g o u → Tgo W n (t + k) 0 1 (v + u) := by
  induction h with
  | zero => intro k u h; rw [Nat.zero_add, Int.zero_add]; exact h
  | step here h h1 h2 h3 ih =>
    intro k u hu
    have := ih (.step here h1 h2 h3 hu)
    rw [show ∀ t k : Nat, t + 1 + k = t + (k + 1) from fun t k => by omega, Int.add_assoc, Int.add_comm (W _) u]
    exact this
theorem Tgo.rch {W : Nat → Int} {n k g o : Nat} {u : Int} (h : Tgo W n k g o u) : ∀ {t : Nat} {v : Int}, Rch W n t g o v → Rch W n (t + k) n 0 (v + u) := by
  induction h with
  | zero => intro t v h; rw [Nat.add_zero, Int.add_zero]; exact h
  | step here h1 h2 h3 h ih =>
    intro t v hv
    have := ih (.step here hv h1 h2 h3)
    rw [show ∀ t k : Nat, t + (k + 1) = t + 1 + k from fun t k => by omega, Int.add_comm _ (W _), ← Int.add_assoc]
    exact this
section
variable {sg : List Pc} {ids : List Int}
def Wt (sg : List Pc) (c : Nat) : Int := ssum (sg.take c)
theorem Wt_mono (H : Sg sg ids) {c d : Nat} (h : c ≤ d) : Wt sg c ≤ Wt sg d := by
  have : sg.take d = sg.take c ++ (sg.drop c).take (d - c) := by
    rw [← List.take_append_drop c (sg.take d), List.take_take, Nat.min_eq_left h, List.drop_take]
  unfold Wt
  rw [this, ssum_app]
  have key : ∀ l : List Pc, (∀ p ∈ l, p ∈ sg) → 0 ≤ ssum l := fun l => by
    induction l with
    | nil => intro _; simp [ssum]
    | cons x l ih =>
      intro hl
      rw [ssum_cons]
      have := ih fun p hp => hl p (.tail _ hp)
      have := H.pos x (hl x (.head _))
      omega
  have := key ((sg.drop c).take (d - c)) fun p hp => List.mem_of_mem_drop (List.mem_of_mem_take hp)
  omega
theorem tgo_ge (H : Sg sg ids) {k g o : Nat} {u : Int} (h : Tgo (Wt sg) sg.length k g o u) : g ≤ sg.length ∧ o ≤ sg.length - g ∧ 2 * (sg.length - g - o) ≤ (LL sg k).length ∧ SS sg k (2 * (sg.length - g - o)) ≤ u := by
  induction h with
  | zero => simp [LL, SS, ssum]
  | @step k g o u here h1 h2 h3 h ih =>
    obtain ⟨i1, i2, i3, i4⟩ := ih
    obtain ⟨n, hn⟩ : ∃ n, n = sg.length := ⟨_, rfl⟩
    rw [← hn] at h1 h3 i1 i2 i3 i4 ⊢
    have hc : 2 * (n - g - o) ≤ (LL sg (k + 1)).length ∧ SS sg (k + 1) (2 * (n - g - o)) ≤ u + Wt sg (n - g) := by
      by_cases c : 2 * o ≤ n - g
      · have e : n - (g + here) - min (2 * o - here) (n - g - here) = n - g - 2 * o := by omega
        rw [e] at i3 i4
        have := SS_min H (k := k) (i := n - g) (j := n - g - 2 * o) (by omega) i3
        rw [show n - g + (n - g - 2 * o) = 2 * (n - g - o) by omega] at this
        rw [LL_len, ← hn]
        refine ⟨by omega, ?_⟩
        show _ ≤ u + ssum _
        omega
      · have e : n - (g + here) - min (2 * o - here) (n - g - here) = 0 := by omega
        rw [e] at i4
        have h0 : SS sg k (2 * 0) = 0 := by simp [SS, ssum]
        have := SS_min H (k := k) (i := 2 * (n - g - o)) (j := 0) (by omega) (by omega)
        rw [h0, show 2 * (n - g - o) + 0 = 2 * (n - g - o) from rfl] at this
        have hm := Wt_mono H (c := 2 * (n - g - o)) (d := n - g) (by omega)
        rw [LL_len, ← hn]
        refine ⟨by omega, ?_⟩
        unfold Wt at hm ⊢
        omega
    exact ⟨by omega, h1, hc.1, hc.2⟩
theorem tgo_ex (H : Sg sg ids) : ∀ (k c o : Nat), c ≤ sg.length → o ≤ c → (c - o) + 1 ≤ sg.length → 2 * (c - o) ≤ (LL sg (k + 1)).length → nak sg k (2 * (c - o)) = c → Tgo (Wt sg) sg.length (k + 1) (sg.length - c) o (SS sg (k + 1) (2 * (c - o)))
  | k, c, o, hc, ho, hm, hl, hn => by
    obtain ⟨h1, h2, h3, h4⟩ := nak_take sg k (2 * (c - o)) hl
    rw [SS_split sg hl, hn]
    rw [hn] at h1 h2 h3
    have hcc : sg.length - (sg.length - c) = c := by omega
    rw [Int.add_comm, show ssum (sg.take c) = Wt sg (sg.length - (sg.length - c)) by rw [hcc]; rfl]
    obtain ⟨b, hb⟩ : ∃ b, b = 2 * (c - o) - c := ⟨_, rfl⟩
    rw [← hb] at h3 ⊢
    cases k with
    | zero =>
      have hb0 : b = 0 := by simp [LL] at h3; omega
      have e : SS sg 0 (2 * b) = 0 := by simp [SS, LL, ssum]
      rw [e]
      refine .step c (by omega) (by omega) (by omega) ?_
      rw [show sg.length - c + c = sg.length by omega, show min (2 * o - c) (sg.length - (sg.length - c) - c) = 0 by omega]
      exact .zero
    | succ k =>
      have hne := nested H hl
      rw [hn, ← hb] at hne
      obtain ⟨a', ha'⟩ : ∃ a', a' = nak sg k (2 * b) := ⟨_, rfl⟩
      rw [← ha'] at hne
      have hab : b ≤ a' := by
        by_cases b0 : b = 0
        · omega
        · have := half H k b (by omega) (by omega) h3
          omega
      have ih := tgo_ex H k a' (a' - b) (by omega) (by omega) (by omega) (by rw [show a' - (a' - b) = b by omega]; exact h3) (by rw [show a' - (a' - b) = b by omega]; exact ha'.symm)
      rw [show a' - (a' - b) = b by omega] at ih
      refine .step (c - a') (by omega) (by omega) (by omega) ?_
      rw [show sg.length - c + (c - a') = sg.length - a' by omega, show min (2 * o - (c - a')) (sg.length - (sg.length - c) - (c - a')) = a' - b by omega]
      exact ih
/-- the least cost with so many levels -/
theorem rch_ex (H : Sg sg ids) {L : Nat} (h2 : 2 ≤ sg.length) (hL : sg.length ≤ 2 ^ L) : Rch (Wt sg) sg.length L sg.length 0 (SS sg L (2 * (sg.length - 1))) := by
  cases L with
  | zero => simp at hL; omega
  | succ k =>
    have hl := LL_long sg (k + 1) 1 (by omega)
    have hl' : 2 * (sg.length - 1) ≤ (LL sg (k + 1)).length := by omega
    have hh := half H k (sg.length - 1) (by omega) (by omega) hl'
    have hn := (nak_take sg k (2 * (sg.length - 1)) hl').1
    have := tgo_ex H k sg.length 1 (Nat.le_refl _) (by omega) (by omega) hl' (by omega)
    rw [Nat.sub_self] at this
    have := this.rch .zero
    rw [Nat.zero_add, Int.zero_add] at this
    exact this
theorem rch_ge (H : Sg sg ids) {L t : Nat} {v : Int} (h1 : 1 ≤ sg.length) (ht : t ≤ L) (h : Rch (Wt sg) sg.length t sg.length 0 v) : SS sg L (2 * (sg.length - 1)) ≤ v := by
  have g := h.tgo .zero
  rw [Nat.add_zero, Int.add_zero] at g
  obtain ⟨_, _, i3, i4⟩ := tgo_ge H g
  rw [Nat.sub_zero] at i3 i4
  have key : ∀ d, 2 * (sg.length - 1) ≤ (LL sg (t + d)).length ∧ SS sg (t + d) (2 * (sg.length - 1)) ≤ v := fun d => by
    induction d with
    | zero => exact ⟨i3, i4⟩
    | succ d ih =>
      have := SS_anti H (t + d) _ ih.1
      have hm := LL_mono sg (t + d)
      show _ ≤ (LL sg (t + d + 1)).length ∧ SS sg (t + d + 1) _ ≤ v
      exact ⟨by omega, by omega⟩
  have := (key (L - t)).2
  rwa [show t + (L - t) = L by omega] at this
theorem rch_in {W : Nat → Int} {n t g o : Nat} {v : Int} (h : Rch W n t g o v) (hn : 1 ≤ n) : g ≤ n ∧ o ≤ n := by
  cases h with
  | zero => exact ⟨Nat.zero_le _, hn⟩
  | step here h h1 h2 h3 => exact ⟨h3, by omega⟩
end
end Go.Proofs.Ytlchakkdgkbabaa

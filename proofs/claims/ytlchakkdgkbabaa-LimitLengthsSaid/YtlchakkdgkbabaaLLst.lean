/- The reference's table, level by level: what its cells say. No condition but what each says. -/
import Derived.Test.YtlchakkdgkbabaaLSrt
set_option linter.unusedSimpArgs false
set_option linter.unusedVariables false
namespace Go.Proofs.Ytlchakkdgkbabaa
def far : Int := 1152921504606846976
section
variable {W : Nat → Int} {n t : Nat} {C N : Nat → Nat → Int} {b : Int}
/-- sums are not too great -/
def Wok (W : Nat → Int) (B : Nat) : Prop := ∀ c, 0 ≤ W c ∧ W c ≤ B
theorem rch_b {B : Nat} (hW : Wok W B) {g o : Nat} {v : Int} (h : Rch W n t g o v) : 0 ≤ v ∧ v ≤ t * (B : Int) := by
  induction h with
  | zero => simp
  | step here h h1 h2 h3 ih =>
    rename_i t g o v
    have := hW (n - g)
    have e : ((t + 1 : Nat) : Int) * (B : Int) = (t : Int) * B + B := by rw [Int.natCast_add, Int.add_mul]; simp
    rw [e]
    omega
structure Tb (W : Nat → Int) (n t : Nat) (C : Nat → Nat → Int) : Prop where
  snd : ∀ g o, g ≤ n → o ≤ 2 * n → C g o = far ∨ Rch W n t g o (C g o)
  cmp : ∀ g o v, Rch W n t g o v → C g o ≤ v
def don (g o h g0 o0 h0 : Nat) : Prop := g < g0 ∨ (g = g0 ∧ (o < o0 ∨ (o = o0 ∧ h < h0)))
structure Pa (W : Nat → Int) (n t : Nat) (C N : Nat → Nat → Int) (g0 o0 h0 : Nat) : Prop where
  snd : ∀ g o, g ≤ n → o ≤ 2 * n → N g o = far ∨ Rch W n (t + 1) g o (N g o)
  cmp : ∀ g o h, don g o h g0 o0 h0 → g ≤ n → C g o ≠ far → o ≤ n - g → h ≤ 2 * o → g + h ≤ n → N (g + h) (min (2 * o - h) (n - g - h)) ≤ C g o + W (n - g)
theorem tb_0 (hn : 1 ≤ n) (h : ∀ g o, g ≤ n → o ≤ 2 * n → C g o = if g = 0 ∧ o = 1 then 0 else far) : Tb W n 0 C where
  snd := fun g o hg ho => by
    rw [h g o hg ho]
    split
    · rename_i c
      obtain ⟨rfl, rfl⟩ := c
      exact .inr .zero
    · exact .inl rfl
  cmp := fun g o v hr => by
    cases hr
    rw [h 0 1 (by omega) (by omega), if_pos ⟨rfl, rfl⟩]
    exact Int.le_refl _
theorem pa_0 (h : ∀ g o, g ≤ n → o ≤ 2 * n → N g o = far) : Pa W n t C N 0 0 0 where
  snd := fun g o hg ho => .inl (h g o hg ho)
  cmp := fun g o h hd => by unfold don at hd; omega
theorem pa_h {g0 o0 h0 : Nat} (hC : Tb W n t C) (P : Pa W n t C N g0 o0 h0) (hg : g0 ≤ n) (hf : C g0 o0 ≠ far) (ho : o0 ≤ n - g0) (h1 : h0 ≤ 2 * o0) (h2 : g0 + h0 ≤ n) {N' : Nat → Nat → Int}
    (hN : ∀ g o, g ≤ n → o ≤ 2 * n → N' g o = if g = g0 + h0 ∧ o = min (2 * o0 - h0) (n - g0 - h0) then min (N g o) (C g0 o0 + W (n - g0)) else N g o) : Pa W n t C N' g0 o0 (h0 + 1) where
  snd := fun g o hg' ho' => by
    rw [hN g o hg' ho']
    have hr : Rch W n t g0 o0 (C g0 o0) := (hC.snd g0 o0 hg (by omega)).resolve_left hf
    split
    · rename_i c
      obtain ⟨rfl, rfl⟩ := c
      rcases Int.le_total (N (g0 + h0) (min (2 * o0 - h0) (n - g0 - h0))) (C g0 o0 + W (n - g0)) with c | c
      · rw [Int.min_eq_left c]
        exact P.snd _ _ hg' ho'
      · rw [Int.min_eq_right c]
        exact .inr (.step h0 hr ho h1 h2)
    · exact P.snd g o hg' ho'
  cmp := fun g o h hd hg' hf' ho' h1' h2' => by
    rw [hN _ _ h2' (by omega)]
    by_cases e : g = g0 ∧ o = o0 ∧ h = h0
    · obtain ⟨rfl, rfl, rfl⟩ := e
      rw [if_pos ⟨rfl, rfl⟩]
      exact Int.min_le_right _ _
    · have := P.cmp g o h (by unfold don at hd ⊢; omega) hg' hf' ho' h1' h2'
      split
      · exact Int.le_trans (Int.min_le_left _ _) this
      · exact this
theorem pa_o {g0 o0 h0 : Nat} (P : Pa W n t C N g0 o0 h0) (h : C g0 o0 = far ∨ ¬ o0 ≤ n - g0 ∨ ¬ (h0 ≤ 2 * o0 ∧ g0 + h0 ≤ n)) : Pa W n t C N g0 (o0 + 1) 0 where
  snd := P.snd
  cmp := fun g o h' hd hg' hf' ho' h1' h2' => by
    by_cases e : don g o h' g0 o0 h0
    · exact P.cmp g o h' e hg' hf' ho' h1' h2'
    · obtain ⟨rfl, rfl, e3⟩ : g = g0 ∧ o = o0 ∧ h0 ≤ h' := by unfold don at hd e; omega
      rcases h with h | h | h
      · exact absurd h hf'
      · exact absurd ho' h
      · exact absurd ⟨by omega, by omega⟩ h
theorem pa_g {g0 : Nat} (P : Pa W n t C N g0 (n + 1) 0) : Pa W n t C N (g0 + 1) 0 0 where
  snd := P.snd
  cmp := fun g o h' hd hg' hf' ho' h1' h2' => P.cmp g o h' (by unfold don at hd ⊢; omega) hg' hf' ho' h1' h2'
theorem pa_end {B : Nat} (hW : Wok W B) (hn : 1 ≤ n) (hB : (t : Int) * B < far) (hC : Tb W n t C) (P : Pa W n t C N (n + 1) 0 0) : Tb W n (t + 1) N where
  snd := P.snd
  cmp := fun g o v hr => by
    cases hr with
    | step here h h1 h2 h3 =>
      rename_i g o v
      have hc := hC.cmp g o v h
      have hb := rch_b hW h
      have hin := rch_in h hn
      have := P.cmp g o here (.inl (by omega)) hin.1 (by omega) h1 h2 h3
      omega
structure Bs (W : Nat → Int) (n t : Nat) (b : Int) : Prop where
  snd : b = far ∨ ∃ t', t' ≤ t ∧ Rch W n t' n 0 b
  cmp : ∀ t' v, 1 ≤ t' → t' ≤ t → Rch W n t' n 0 v → b ≤ v
theorem bs_0 : Bs W n 0 far := ⟨.inl rfl, fun t' v h1 h2 _ => by omega⟩
theorem bs_s (hb : Bs W n t b) (hC : Tb W n (t + 1) C) : Bs W n (t + 1) (if C n 0 < b then C n 0 else b) := by
  have h := hC.snd n 0 (Nat.le_refl _) (by omega)
  refine ⟨?_, fun t' v h1 h2 hr => ?_⟩
  · split
    · rcases h with h | h
      · exact .inl h
      · exact .inr ⟨t + 1, Nat.le_refl _, h⟩
    · rcases hb.snd with h | ⟨t', h1, h2⟩
      · exact .inl h
      · exact .inr ⟨t', by omega, h2⟩
  · by_cases e : t' = t + 1
    · subst e
      have := hC.cmp n 0 v hr
      split <;> omega
    · have := hb.cmp t' v h1 (by omega) hr
      split <;> omega
theorem tb_b {B : Nat} (hW : Wok W B) (hC : Tb W n t C) {g o : Nat} (hg : g ≤ n) (ho : o ≤ 2 * n) : C g o = far ∨ (0 ≤ C g o ∧ C g o ≤ t * (B : Int)) := (hC.snd g o hg ho).imp id fun h => rch_b hW h
end
theorem bs_end {sg : List Pc} {ids : List Int} (H : Sg sg ids) {B : Nat} (hW : Wok (Wt sg) B) {L : Nat} (hB : (L : Int) * B < far) (h2 : 2 ≤ sg.length) (hL : sg.length ≤ 2 ^ L) (h1 : 1 ≤ L) {b : Int} (hb : Bs (Wt sg) sg.length L b) : b = SS sg L (2 * (sg.length - 1)) := by
  have hx := rch_ex H h2 hL
  have hle := hb.cmp L _ h1 (Nat.le_refl _) hx
  have hxb := rch_b hW hx
  rcases hb.snd with h | ⟨t', h3, h4⟩
  · omega
  · have := rch_ge H (by omega) h3 h4
    omega
/-- prefix sums -/
def psK (L : List Int) : Nat → List Int
  | 0 => [0]
  | k + 1 => psK L k ++ [pfx L (k + 1)]
theorem psK_len (L : List Int) : ∀ k, (psK L k).length = k + 1
  | 0 => rfl
  | k + 1 => by rw [psK, List.length_append, psK_len L k]; rfl
theorem psK_get (L : List Int) : ∀ {k j : Nat}, j ≤ k → (psK L k).getD j 0 = pfx L j
  | 0, j, h => by
    obtain rfl : j = 0 := by omega
    rfl
  | k + 1, j, h => by
    have hl := psK_len L k
    rw [psK]
    by_cases e : j ≤ k
    · simp only [List.getD, List.getElem?_append_left (show j < (psK L k).length by omega)]
      exact psK_get L e
    · obtain rfl : j = k + 1 := by omega
      simp only [List.getD, List.getElem?_append_right (show (psK L k).length ≤ k + 1 by omega), hl, Nat.sub_self, List.getElem?_cons_zero, Option.getD_some]
theorem rep_getD {k : Nat} {x : Int} {j : Nat} (h : j < k) : (List.replicate k x).getD j 0 = x := by
  simp [List.getD, h]
theorem rep_app (k : Nat) (x : Int) : List.replicate k x ++ [x] = List.replicate (k + 1) x := (List.replicate_succ' (n := k) (a := x)).symm
/-- rows, one of them with a cell set -/
def setR (R : Nat → List Int) (g o : Nat) (c : Int) : Nat → List Int := fun k => if k = g then (R k).set o c else R k
theorem setR_len {R : Nat → List Int} {m g o : Nat} {c : Int} {k : Nat} (h : (R k).length = m) : (setR R g o c k).length = m := by
  unfold setR
  split
  · rw [List.length_set]; exact h
  · exact h
theorem setR_get {R : Nat → List Int} {g o : Nat} {c : Int} {k j : Nat} (h : o < (R g).length) : (setR R g o c k).getD j 0 = if k = g ∧ j = o then c else (R k).getD j 0 := by
  unfold setR
  by_cases e : k = g
  · subst e
    rw [if_pos rfl]
    by_cases e2 : j = o
    · subst e2
      rw [if_pos ⟨rfl, rfl⟩]
      simp [List.getD, h]
    · rw [if_neg (fun c => e2 c.2)]
      simp only [List.getD, List.getElem?_set_ne (Ne.symm e2)]
  · rw [if_neg e, if_neg (fun c => e c.1)]
end Go.Proofs.Ytlchakkdgkbabaa

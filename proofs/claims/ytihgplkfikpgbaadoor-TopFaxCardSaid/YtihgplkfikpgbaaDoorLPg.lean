/- Pages as streams of bits: their lengths, their bits, what is read of them. No condition but what each says. -/
import Derived.Test.YtihgplkfikpgbaaDoorWRow
import Derived.Test.YtihgplkfikpgbaaDoorWEnd
set_option linter.unusedSimpArgs false
set_option linter.unusedVariables false
set_option maxRecDepth 8000
namespace Go.Proofs.YtihgplkfikpgbaaDoor
open Go.Eng Go.RowKit
theorem wd_bits (bl : Bool) (i : Nat) : Bits (wd bl i) := by
  by_cases h : i < 104
  · exact (wd_ok bl h).1
  · unfold wd
    rw [show (clW bl).getD i [] = [] from by simp only [List.getD]; rw [List.getElem?_eq_none (by rw [cl_len]; omega)]; rfl]
    exact Bits.nil
theorem wd_le (bl : Bool) (i : Nat) : (wd bl i).length ≤ 13 := by
  by_cases h : i < 104
  · exact (wd_ok bl h).2.2
  · unfold wd
    rw [show (clW bl).getD i [] = [] from by simp only [List.getD]; rw [List.getElem?_eq_none (by rw [cl_len]; omega)]; rfl]
    exact Nat.zero_le _
theorem lB_bits (bl : Bool) (n : Int) : Bits (lB bl n) := by
  unfold lB
  refine Bits.app ?_ (wd_bits _ _)
  split
  · exact wd_bits _ _
  · exact Bits.nil
theorem lB_le (bl : Bool) (n : Int) : (lB bl n).length ≤ 26 := by
  unfold lB
  rw [List.length_append]
  have := wd_le bl (n.toNat % 64)
  split
  · have := wd_le bl (63 + n.toNat / 64)
    omega
  · rw [List.length_nil]; omega
theorem lB_ne (bl : Bool) (n : Int) : 0 < (lB bl n).length := by
  unfold lB
  rw [List.length_append]
  have h := (wd_ok bl (i := n.toNat % 64) (by omega)).2.1
  have : 0 < (wd bl (n.toNat % 64)).length := by
    cases e : wd bl (n.toNat % 64) with
    | nil => exact absurd e h
    | cons x l => simp
  omega
theorem mW_bits (d : Int) : Bits (mW d) := by
  by_cases h : (d + 3).toNat < 10
  · exact (all_get md_ok _ (by rw [md_len]; exact h)).1
  · unfold mW
    rw [show mdW.getD (d + 3).toNat [] = [] from by simp only [List.getD]; rw [List.getElem?_eq_none (by rw [md_len]; omega)]; rfl]
    exact Bits.nil
theorem md_le : ∀ i : Fin 10, (mdW.getD i.val []).length ≤ 7 := by decide +kernel
theorem mW_le (d : Int) : (mW d).length ≤ 8 := by
  by_cases h : (d + 3).toNat < 10
  · have h2 : (mdW.getD (d + 3).toNat []).length ≤ 7 := md_le ⟨_, h⟩
    show (mdW.getD (d + 3).toNat []).length ≤ 8
    omega
  · unfold mW
    rw [show mdW.getD (d + 3).toNat [] = [] from by simp only [List.getD]; rw [List.getElem?_eq_none (by rw [md_len]; omega)]; rfl]
    exact Nat.zero_le _
theorem rowS_bits : ∀ (L : List Int) (i : Nat), Bits (rowS L i)
  | [], _ => Bits.nil
  | x :: r, i => by
    rw [rowS]
    exact (lB_bits _ _).app (rowS_bits r _)
theorem rowS_le : ∀ (L : List Int) (i : Nat), (rowS L i).length ≤ L.length * 26
  | [], i => Nat.zero_le _
  | x :: r, i => by
    have := rowS_le r (i + 1)
    have := lB_le (decide (i % 2 = 1)) x
    rw [rowS, List.length_append, List.length_cons]
    omega
/-- the lengths of a row -/
def lens (w : Int) (r : List Int) : List Int := lenK (r ++ [w]) (r.length + 1)
theorem lens_len (w : Int) (r : List Int) : (lens w r).length = r.length + 1 := lenK_len _ _
theorem lenK_get (m : List Int) : ∀ (k j : Nat), j < k → (lenK m k).getD j 0 = m.getD j 0 - wasK m j
  | 0, j, h => absurd h (Nat.not_lt_zero _)
  | k + 1, j, h => by
    rw [lenK, getD_append, lenK_len]
    by_cases c : j < k
    · rw [if_pos c]; exact lenK_get m k j c
    · obtain rfl : j = k := by omega
      rw [if_neg c, Nat.sub_self]; rfl
/-- the bits of a row by the row above -/
def agR (w : Int) (r ab : List Int) : List Int := ag mW lB r ab w (w.toNat + 1) (-1) 0
theorem agR_bits (w : Int) (r ab : List Int) : Bits (agR w r ab) := ag_bits mW_bits lB_bits _ _ _
theorem agR_le (w : Int) (r ab : List Int) : (agR w r ab).length ≤ (w.toNat + 1) * 60 := ag_len mW_le lB_le _ _ _
theorem rowR_le (w : Int) (r : List Int) (h : r.length ≤ w.toNat) : (rowS (lens w r) 0).length ≤ (w.toNat + 1) * 26 := by
  have h1 := rowS_le (lens w r) 0
  rw [lens_len] at h1
  have h2 : (r.length + 1) * 26 ≤ (w.toNat + 1) * 26 := Nat.mul_le_mul_right _ (by omega)
  omega
/-! ### the three pages -/
def mhS (w : Int) : List (List Int) → Nat → List Int
  | [], _ => []
  | r :: l, n => rowS (lens w r) 0 ++ (List.replicate ((n + (rowS (lens w r) 0).length + 7) / 8 * 8 - (n + (rowS (lens w r) 0).length)) 0 ++ mhS w l ((n + (rowS (lens w r) 0).length + 7) / 8 * 8))
def sgl (two : Bool) (ev : Int) (i : Nat) : Bool := !two || decide ((i : Int) % ev = 0)
def bdR (w : Int) (sg : Bool) (r ab : List Int) : List Int := if sg then rowS (lens w r) 0 else agR w r ab
def tls (two : Bool) : Nat → List Int
  | 0 => []
  | k + 1 => endL false two true 0 ++ tls two k
def g3E (al two en : Bool) (n : Nat) : List Int := if en then endL al two true n ++ tls two 5 else []
def g3S (w : Int) (al two en : Bool) (ev : Int) : List (List Int) → Nat → List Int → Nat → List Int
  | [], _, _, n => g3E al two en n
  | r :: l, i, ab, n => endL al two (sgl two ev i) n ++ (bdR w (sgl two ev i) r ab ++ g3S w al two en ev l (i + 1) r (n + (endL al two (sgl two ev i) n).length + (bdR w (sgl two ev i) r ab).length))
def g4S (w : Int) : List (List Int) → List Int → List Int
  | [], _ => eol ++ eol
  | r :: l, ab => agR w r ab ++ g4S w l r
theorem endF (two sg : Bool) (n : Nat) : endL false two sg n = endL false two sg 0 := rfl
theorem tag_bits (two sg : Bool) : Bits (tagL two sg) := by cases two <;> cases sg <;> unfold Bits tagL <;> decide
theorem end_bits (al two sg : Bool) (n : Nat) : Bits (endL al two sg n) := (Bits.rep _).app (eol_bits.app (tag_bits _ _))
theorem end_le (al two sg : Bool) (n : Nat) : (endL al two sg n).length ≤ 20 ∧ 12 ≤ (endL al two sg n).length := by
  rw [endL, List.length_append, List.length_append, List.length_replicate, eol_len]
  have h1 : fillN al n ≤ 7 := by unfold fillN; split <;> omega
  have h2 : (tagL two sg).length ≤ 1 := by cases two <;> cases sg <;> decide
  omega
theorem bdR_bits (w : Int) (sg : Bool) (r ab : List Int) : Bits (bdR w sg r ab) := by
  unfold bdR
  split
  · exact rowS_bits _ _
  · exact agR_bits _ _ _
theorem bdR_le (w : Int) (sg : Bool) (r ab : List Int) (h : r.length ≤ w.toNat) : (bdR w sg r ab).length ≤ (w.toNat + 1) * 60 := by
  unfold bdR
  split
  · have := rowR_le w r h; omega
  · exact agR_le _ _ _
theorem mhS_bits (w : Int) : ∀ (l : List (List Int)) (n : Nat), Bits (mhS w l n)
  | [], _ => Bits.nil
  | r :: l, n => by
    rw [mhS]
    exact (rowS_bits _ _).app ((Bits.rep _).app (mhS_bits w l _))
theorem mhS_le (w : Int) : ∀ (l : List (List Int)) (n : Nat), (∀ r ∈ l, r.length ≤ w.toNat) → (mhS w l n).length ≤ l.length * ((w.toNat + 1) * 90)
  | [], _, _ => Nat.zero_le _
  | r :: l, n, h => by
    have h1 := mhS_le w l ((n + (rowS (lens w r) 0).length + 7) / 8 * 8) fun x hx => h x (.tail _ hx)
    have h2 := rowR_le w r (h r (.head _))
    rw [mhS, List.length_append, List.length_append, List.length_replicate, List.length_cons, Nat.add_mul]
    omega
theorem tls_bits (two : Bool) : ∀ k, Bits (tls two k)
  | 0 => Bits.nil
  | k + 1 => (end_bits _ _ _ _).app (tls_bits two k)
theorem tls_le (two : Bool) : ∀ k, (tls two k).length ≤ k * 20
  | 0 => Nat.zero_le _
  | k + 1 => by
    have := tls_le two k
    have := (end_le false two true 0).1
    rw [tls, List.length_append]; omega
theorem g3E_bits (al two en : Bool) (n : Nat) : Bits (g3E al two en n) := by
  unfold g3E
  split
  · exact (end_bits _ _ _ _).app (tls_bits _ _)
  · exact Bits.nil
theorem g3E_le (al two en : Bool) (n : Nat) : (g3E al two en n).length ≤ 120 := by
  unfold g3E
  split
  · have := tls_le two 5
    have := (end_le al two true n).1
    rw [List.length_append]; omega
  · exact Nat.zero_le _
theorem g3S_bits (w : Int) (al two en : Bool) (ev : Int) : ∀ (l : List (List Int)) (i : Nat) (ab : List Int) (n : Nat), Bits (g3S w al two en ev l i ab n)
  | [], _, _, n => g3E_bits _ _ _ _
  | r :: l, i, ab, n => by
    rw [g3S]
    exact (end_bits _ _ _ _).app ((bdR_bits _ _ _ _).app (g3S_bits w al two en ev l _ _ _))
theorem g3S_le (w : Int) (al two en : Bool) (ev : Int) : ∀ (l : List (List Int)) (i : Nat) (ab : List Int) (n : Nat), (∀ r ∈ l, r.length ≤ w.toNat) → (g3S w al two en ev l i ab n).length ≤ l.length * ((w.toNat + 1) * 90) + 120
  | [], _, _, n, _ => by
    have := g3E_le al two en n
    rw [g3S]; omega
  | r :: l, i, ab, n, h => by
    have h1 := g3S_le w al two en ev l (i + 1) r (n + (endL al two (sgl two ev i) n).length + (bdR w (sgl two ev i) r ab).length) fun x hx => h x (.tail _ hx)
    have h2 := bdR_le w (sgl two ev i) r ab (h r (.head _))
    have h3 := (end_le al two (sgl two ev i) n).1
    rw [g3S, List.length_append, List.length_append, List.length_cons, Nat.add_mul]
    omega
theorem g4S_bits (w : Int) : ∀ (l : List (List Int)) (ab : List Int), Bits (g4S w l ab)
  | [], _ => eol_bits.app eol_bits
  | r :: l, ab => by
    rw [g4S]
    exact (agR_bits _ _ _).app (g4S_bits w l r)
theorem g4S_le (w : Int) : ∀ (l : List (List Int)) (ab : List Int), (g4S w l ab).length ≤ l.length * ((w.toNat + 1) * 90) + 120
  | [], _ => by rw [g4S, List.length_append, eol_len]; omega
  | r :: l, ab => by
    have h1 := g4S_le w l r
    have h2 := agR_le w r ab
    rw [g4S, List.length_append, List.length_cons, Nat.add_mul]
    omega
/-! ### what is read of what was written -/
theorem at_bt {f : Nat → Int} (hf : Bit f) {n p : Nat} {L : List Int} (h : At f p L) (hp : p + L.length ≤ n) : At (bt (pk f n)) p L := fun i hi => by
  rw [bt_pk f hf (by omega)]
  exact h i hi
theorem hn_ge {g : Nat → Int} (hg : Bit g) : ∀ {k i : Nat}, i < k → g i = 1 → (2 : Int) ^ (k - 1 - i) ≤ hn g k
  | 0, i, h, _ => absurd h (Nat.not_lt_zero _)
  | k + 1, i, h, h1 => by
    have hb := hn_b hg k
    have hk := hg k
    rw [hn]
    by_cases c : i = k
    · subst c
      rw [show i + 1 - 1 - i = 0 by omega, h1, Int.pow_zero]
      omega
    · have ih := hn_ge hg (k := k) (i := i) (by omega) h1
      rw [show k + 1 - 1 - i = (k - 1 - i) + 1 by omega, Int.pow_succ]
      omega
theorem md_one : ∀ i : Fin 10, ∃ j : Fin 7, (mdW.getD i.val []).getD j.val 0 = 1 ∧ j.val < (mdW.getD i.val []).length := by decide +kernel
theorem mW_one {d : Int} (h : -3 ≤ d ∧ d ≤ 5) : ∃ j, j < 7 ∧ j < (mW d).length ∧ (mW d).getD j 0 = 1 := by
  obtain ⟨j, h1, h2⟩ := md_one ⟨(d + 3).toNat, by omega⟩
  exact ⟨j.val, j.isLt, h2, h1⟩
/-- a row by the row above begins with a mode -/
theorem agR_first {w : Int} (hw : 1 ≤ w) (r ab : List Int) : ∃ j, j < 7 ∧ j < (agR w r ab).length ∧ (agR w r ab).getD j 0 = 1 := by
  have key : ∀ (d : Int) (X : List Int), (-3 ≤ d ∧ d ≤ 5) → ∃ j, j < 7 ∧ j < (mW d ++ X).length ∧ (mW d ++ X).getD j 0 = 1 := fun d X hd => by
    obtain ⟨j, h1, h2, h3⟩ := mW_one hd
    refine ⟨j, h1, by rw [List.length_append]; omega, ?_⟩
    rw [getD_append, if_pos h2]; exact h3
  unfold agR
  rw [ag, if_neg (by omega)]
  dsimp only
  split
  · exact key 5 _ (by omega)
  · split
    · exact key _ _ (by omega)
    · exact key 4 _ (by omega)
theorem no_end {l : List Int} {p : Nat} {L : List Int} (hA : At (bt l) p L) (hp : p + L.length ≤ 8 * l.length) (h1 : ∃ j, j < 7 ∧ j < L.length ∧ L.getD j 0 = 1) : ¬ hn (pkF l p) 24 = 4097 := by
  obtain ⟨j, h2, h3, h4⟩ := h1
  have h5 : pkF l p j = 1 := by
    unfold pkF
    rw [if_pos (by omega), hA j h3]; exact h4
  have h6 := hn_ge (pkF_bit l p) (k := 24) (i := j) (by omega) h5
  have h7 : (2 : Int) ^ 17 ≤ 2 ^ (24 - 1 - j) := by
    have : ∀ j : Fin 7, (2 : Int) ^ 17 ≤ 2 ^ (24 - 1 - j.val) := by decide
    exact this ⟨j, h2⟩
  intro h
  have : (2 : Int) ^ 17 = 131072 := by decide
  omega
end Go.Proofs.YtihgplkfikpgbaaDoor

/- Numbers in so many digits, and their order as texts. No condition but what each says. -/
import Derived.Test.YtfighiceodplnaaDoorLNum
set_option linter.unusedSimpArgs false
set_option linter.unusedVariables false
namespace Go.Proofs.YtfighiceodplnaaDoor
open Go.Eng Go.RowKit
/-- a number in so many digits, or more -/
def pad (w n : Nat) : List Int := List.replicate (w - (dec n).length) 48 ++ dec n
theorem vf_snoc1 (l : List Int) (z : Int) (a : Nat) : vf a (l ++ [z]) = 10 * vf a l + (z - 48).toNat := by rw [vf_app, vf, vf]
theorem rep_snoc (k : Nat) (z : Int) : List.replicate k z ++ [z] = List.replicate (k + 1) z := (List.replicate_succ' (n := k) (a := z)).symm
theorem pad_vf : ∀ (w : Nat) (l : List Int), isD l → l.length = w + 1 → pad (w + 1) (vf 0 l) = l := by
  intro w
  induction w with
  | zero =>
    intro l hd hl
    match l, hl with
    | [z], _ =>
      have hz := hd z (by simp)
      rw [show vf 0 [z] = (z - 48).toNat by rw [vf, vf]; omega, pad, dec_one (by omega)]
      simp only [List.length_singleton, Nat.sub_self, List.replicate_zero, List.nil_append]
      congr 1
      omega
  | succ w ih =>
    intro l hd hl
    obtain ⟨m, z, rfl⟩ : ∃ m z, l = m ++ [z] := ⟨l.dropLast, l.getLast (by intro c; rw [c] at hl; cases hl), (List.dropLast_concat_getLast _).symm⟩
    have hm : m.length = w + 1 := by simpa using hl
    have hz := hd z (by simp)
    have im := ih m (fun y hy => hd y (by simp [hy])) hm
    rw [vf_snoc1]
    by_cases hn : 10 * vf 0 m + (z - 48).toNat < 10
    · have h0 : vf 0 m = 0 := by omega
      rw [h0, pad, dec_one (by decide)] at im
      rw [h0, pad, dec_one (by omega)]
      simp only [List.length_singleton] at im ⊢
      rw [← im]
      rw [show w + 1 - 1 = w by omega, show w + 1 + 1 - 1 = w + 1 by omega]
      rw [show (48 : Int) + ((0 : Nat) : Int) = 48 from rfl, rep_snoc]
      congr 2
      omega
    · rw [pad, dec_more hn]
      rw [show (10 * vf 0 m + (z - 48).toNat) / 10 = vf 0 m by omega, show (10 * vf 0 m + (z - 48).toNat) % 10 = (z - 48).toNat by omega]
      rw [List.length_append, List.length_singleton, ← List.append_assoc, show w + 1 + 1 - ((dec (vf 0 m)).length + 1) = w + 1 - (dec (vf 0 m)).length by omega]
      rw [pad] at im
      rw [im]
      congr 2
      omega
theorem pad_len {w n : Nat} (h : n < 10 ^ (w + 1)) : (pad (w + 1) n).length = w + 1 := by
  have := dec_len w n h
  rw [pad, List.length_append, List.length_replicate]
  omega
theorem pad_isD (w n : Nat) : isD (pad w n) := by
  intro z hz
  rcases List.mem_append.1 hz with h | h
  · rw [(List.mem_replicate.1 h).2]; omega
  · exact dec_isD n z h
theorem vf_rep (k a : Nat) (l : List Int) : vf 0 (List.replicate k 48 ++ l) = vf 0 l := by
  induction k with
  | zero => rfl
  | succ k ih => rw [List.replicate_succ, List.cons_append, vf]; exact ih
theorem pad_val (w n : Nat) : vf 0 (pad w n) = n := by rw [pad, vf_rep _ 0, dec_vf]
theorem pad_bytes (w n : Nat) : Bytes (pad w n) := (pad_isD w n).bytes
/-- the order of texts -/
def lexB : List Int → List Int → Bool
  | _, [] => false
  | [], _ :: _ => true
  | a :: l, b :: m => if a < b then true else if b < a then false else lexB l m
theorem lex_app_l : ∀ (p l m : List Int), lexB (p ++ l) (p ++ m) = lexB l m
  | [], l, m => rfl
  | a :: p, l, m => by
    rw [List.cons_append, List.cons_append, lexB, if_neg (Int.lt_irrefl a), if_neg (Int.lt_irrefl a)]
    exact lex_app_l p l m
theorem vf_lo : ∀ (l : List Int) (a : Nat), a * 10 ^ l.length ≤ vf a l
  | [], a => by simp [vf]
  | z :: l, a => by
    rw [vf, List.length_cons, Nat.pow_succ, Nat.mul_comm (10 ^ l.length) 10, ← Nat.mul_assoc]
    exact Nat.le_trans (Nat.mul_le_mul_right _ (by omega)) (vf_lo l _)
theorem vf_lt : ∀ (l : List Int) (a m : Nat), isD l → a < m → vf a l < m * 10 ^ l.length
  | [], a, m, _, h => by simpa [vf] using h
  | z :: l, a, m, hd, h => by
    have hz := hd z (by simp)
    rw [vf, List.length_cons, Nat.pow_succ, Nat.mul_comm (10 ^ l.length) 10, ← Nat.mul_assoc]
    exact vf_lt l _ _ (fun y hy => hd y (by simp [hy])) (by omega)
/-- of two rows of as many digits the one of the less worth comes first, whatever follows -/
theorem lex_vf : ∀ (l m x y : List Int) (a b : Nat), isD l → isD m → l.length = m.length → a ≤ b → vf a l < vf b m → (a = b → lexB (l ++ x) (m ++ y) = true)
  | [], m, x, y, a, b, _, _, hl, hab, h, e => by
    have : m = [] := List.eq_nil_of_length_eq_zero hl.symm
    subst this
    subst e
    simp only [vf] at h
    omega
  | z :: l, [], x, y, a, b, _, _, hl, _, _, _ => by simp at hl
  | z :: l, u :: m, x, y, a, b, hd, hm, hl, hab, h, e => by
    subst e
    have hz := hd z (by simp)
    have hu := hm u (by simp)
    rw [List.cons_append, List.cons_append, lexB]
    by_cases h1 : z < u
    · rw [if_pos h1]
    · rw [if_neg h1]
      by_cases h2 : u < z
      · exfalso
        rw [vf, vf] at h
        have h3 := vf_lo l (10 * a + (z - 48).toNat)
        have h4 := vf_lt m (10 * a + (u - 48).toNat) (10 * a + (u - 48).toNat + 1) (fun y hy => hm y (by simp [hy])) (by omega)
        have hlm : l.length = m.length := by simpa using hl
        rw [hlm] at h3
        have h5 : (10 * a + (u - 48).toNat + 1) * 10 ^ m.length ≤ (10 * a + (z - 48).toNat) * 10 ^ m.length := Nat.mul_le_mul_right _ (by omega)
        omega
      · rw [if_neg h2]
        obtain rfl : z = u := by omega
        rw [vf, vf] at h
        exact lex_vf l m x y _ _ (fun y hy => hd y (by simp [hy])) (fun y hy => hm y (by simp [hy])) (by simpa using hl) (Nat.le_refl _) h rfl
theorem lex_asym : ∀ (l m : List Int), lexB l m = true → lexB m l = false ∧ ¬ m = l
  | l, [], h => by cases l <;> cases h
  | [], b :: m, h => ⟨rfl, by simp⟩
  | a :: l, b :: m, h => by
    rw [lexB] at h
    by_cases h1 : a < b
    · refine ⟨?_, fun c => ?_⟩
      · rw [lexB, if_neg (by omega), if_pos h1]
      · injection c with c1 c2
        omega
    · rw [if_neg h1] at h
      by_cases h2 : b < a
      · rw [if_pos h2] at h; cases h
      · rw [if_neg h2] at h
        obtain ⟨i1, i2⟩ := lex_asym l m h
        refine ⟨?_, fun c => ?_⟩
        · rw [lexB, if_neg h2, if_neg h1]; exact i1
        · injection c with c1 c2
          exact i2 c2
theorem less_lex : ∀ (l m : List Int), Bytes l → Bytes m → Op.bytesLess (ub l) (ub m) = lexB l m
  | l, [], _, _ => by cases l <;> rfl
  | [], b :: m, _, _ => rfl
  | a :: l, b :: m, hl, hm => by
    have e1 := u8_of (hl a (by simp))
    have e2 := u8_of (hm b (by simp))
    have ih := less_lex l m (fun y hy => hl y (by simp [hy])) (fun y hy => hm y (by simp [hy]))
    have eL : Op.bytesLess (ub (a :: l)) (ub (b :: m)) = (decide (UInt8.ofNat a.toNat < UInt8.ofNat b.toNat) || (UInt8.ofNat a.toNat == UInt8.ofNat b.toNat && Op.bytesLess (ub l) (ub m))) := rfl
    have k1 : UInt8.ofNat a.toNat < UInt8.ofNat b.toNat ↔ a < b := by rw [UInt8.lt_iff_toNat_lt]; omega
    have k2 : (UInt8.ofNat a.toNat == UInt8.ofNat b.toNat) = decide (a = b) := by
      by_cases h : a = b
      · rw [h]; simp
      · rw [decide_eq_false h]
        refine beq_false_of_ne fun c => h ?_
        rw [← e1, ← e2, c]
    rw [eL, ih, k2, lexB]
    by_cases h1 : a < b
    · rw [if_pos h1, decide_eq_true (k1.2 h1)]; rfl
    · rw [if_neg h1, decide_eq_false (fun c => h1 (k1.1 c))]
      by_cases h2 : b < a
      · rw [if_pos h2, decide_eq_false (by omega)]; rfl
      · rw [if_neg h2, decide_eq_true (by omega)]; rfl
theorem str_gt {l m : List Int} (hl : Bytes l) (hm : Bytes m) (h : lexB l m = true) : (!(Op.bytesLess (strOfNums m).toList (strOfNums l).toList || (strOfNums m).toList == (strOfNums l).toList)) = true := by
  obtain ⟨h1, h2⟩ := lex_asym l m h
  rw [str_beq hm hl, decide_eq_false h2, ByteArray.toList_eq, ByteArray.toList_eq, str_ub, str_ub, less_lex m l hm hl, h1]
  rfl
theorem lex_pad {w a b : Nat} (x y : List Int) (ha : a < 10 ^ (w + 1)) (hb : b < 10 ^ (w + 1)) (h : a < b) : lexB (pad (w + 1) a ++ x) (pad (w + 1) b ++ y) = true :=
  lex_vf _ _ x y 0 0 (pad_isD _ _) (pad_isD _ _) (by rw [pad_len ha, pad_len hb]) (Nat.le_refl _) (by rw [pad_val, pad_val]; exact h) rfl
/-- the text of a time -/
def txt (y m d h mi s : Nat) : List Int := pad 4 y ++ ([58] ++ (pad 2 m ++ ([58] ++ (pad 2 d ++ ([32] ++ (pad 2 h ++ ([58] ++ (pad 2 mi ++ ([58] ++ pad 2 s)))))))))
theorem txt_bytes (y m d h mi s : Nat) : Bytes (txt y m d h mi s) := by
  have hp : ∀ z : Int, z = 58 ∨ z = 32 → Bytes [z] := fun z h => Bytes.one (by omega)
  unfold txt
  exact (pad_bytes _ _).app ((hp _ (.inl rfl)).app ((pad_bytes _ _).app ((hp _ (.inl rfl)).app ((pad_bytes _ _).app ((hp _ (.inr rfl)).app ((pad_bytes _ _).app ((hp _ (.inl rfl)).app ((pad_bytes _ _).app ((hp _ (.inl rfl)).app (pad_bytes _ _))))))))))
theorem txt_lt {y m d h mi s y' m' d' h' mi' s' : Nat} (b1 : y < 10000 ∧ y' < 10000) (b2 : m < 100 ∧ m' < 100) (b3 : d < 100 ∧ d' < 100) (b4 : h < 100 ∧ h' < 100) (b5 : mi < 100 ∧ mi' < 100) (b6 : s < 100 ∧ s' < 100)
    (k : y < y' ∨ (y = y' ∧ (m < m' ∨ (m = m' ∧ (d < d' ∨ (d = d' ∧ (h < h' ∨ (h = h' ∧ (mi < mi' ∨ (mi = mi' ∧ s < s')))))))))) : lexB (txt y m d h mi s) (txt y' m' d' h' mi' s') = true := by
  unfold txt
  rcases k with k | ⟨rfl, k⟩
  · exact lex_pad (w := 3) _ _ b1.1 b1.2 k
  rw [lex_app_l, lex_app_l]
  rcases k with k | ⟨rfl, k⟩
  · exact lex_pad (w := 1) _ _ b2.1 b2.2 k
  rw [lex_app_l, lex_app_l]
  rcases k with k | ⟨rfl, k⟩
  · exact lex_pad (w := 1) _ _ b3.1 b3.2 k
  rw [lex_app_l, lex_app_l]
  rcases k with k | ⟨rfl, k⟩
  · exact lex_pad (w := 1) _ _ b4.1 b4.2 k
  rw [lex_app_l, lex_app_l]
  rcases k with k | ⟨rfl, k⟩
  · exact lex_pad (w := 1) _ _ b5.1 b5.2 k
  rw [lex_app_l, lex_app_l]
  have := lex_pad (w := 1) [] [] b6.1 b6.2 k
  rw [List.append_nil, List.append_nil] at this
  exact this
end Go.Proofs.YtfighiceodplnaaDoor

/- SamplesAgain: the law's function gives true of all data. No condition but that whole numbers are of their kinds. -/
import Derived.Test.YtlhmhopgbkmafaaLReads
set_option linter.unusedSimpArgs false
set_option linter.unusedVariables false
set_option maxRecDepth 8000
set_option maxHeartbeats 4000000
namespace Go.Proofs.Ytlhmhopgbkmafaa
open Go.Eng Go.RowKit
/-- the digits of a number told by digits -/
theorem dg_hn {g : Nat → Int} (hg : Bit g) : ∀ (w j : Nat), j < w → dg (hn g w).toNat w j = g j
  | w + 1, j, hj => by
    have hb := hn_b hg w
    have hb2 := hn_b hg (w + 1)
    obtain ⟨a, ha⟩ := Int.eq_ofNat_of_zero_le hb.1
    have hgw := hg w
    have e : (hn g (w + 1)).toNat = 2 * a + (g w).toNat := by rw [hn, ha]; omega
    rw [e, dg]
    by_cases c : j = w
    · subst c
      rw [show j + 1 - 1 - j = 0 by omega, Nat.pow_zero, Nat.div_one]
      omega
    · have hj2 : j < w := by omega
      have := dg_hn hg w j hj2
      rw [ha, Int.toNat_natCast, dg] at this
      rw [show w + 1 - 1 - j = (w - 1 - j) + 1 by omega, Nat.pow_succ, Nat.mul_comm (2 ^ (w - 1 - j)) 2, ← Nat.div_div_eq_div_mul, show (2 * a + (g w).toNat) / 2 = a by omega]
      exact this
theorem bt_pk (f : Nat → Int) (hf : Bit f) {n i : Nat} (hi : i < n) (z : List Int) : bt (pk f n ++ z) i = f i := by
  rw [bt, getD_append, pk_len, if_pos (by omega), pk, tab_get _ (by omega), byteF, dg_hn (cut_bit hf n (i / 8)) 8 _ (by omega), cut, if_pos (by omega), show 8 * (i / 8) + i % 8 = i by omega]
theorem cat_at (l : List Int) (m : Nat) (big : Bool) (z : List Int) : ∀ n k, k < n → ((cat l m big n ++ z).drop (k * m)).take m = putL (l.getD k 0).toNat m big
  | n + 1, k, hk => by
    have hl := cat_len l m big n
    have hp := putL_len (l.getD k 0).toNat m big
    by_cases c : k = n
    · subst c
      rw [cat, List.append_assoc, List.drop_append, List.drop_eq_nil_of_le (by omega), List.nil_append, hl, Nat.sub_self, List.drop_zero, List.take_append, hp, Nat.sub_self, List.take_zero, List.append_nil, List.take_of_length_le (by omega)]
    · rw [cat, List.append_assoc]
      exact cat_at l m big _ n k (by omega)
theorem U_pack (l : List Int) (w : Nat) (big : Bool) (h : Smp l w) (hF : Fit l w l.length) (z : List Int) {k : Nat} (hk : k < l.length) : U (pkB l w big ++ z) w big k = l.getD k 0 := by
  have hb := h.l2.get (by decide) k
  have hf := hF k hk
  have hp := (pow_le h.w.2).2
  have hlt : (l.getD k 0).toNat < 2 ^ w := by rw [hp] at hf; omega
  unfold U pkB
  by_cases c : wh w
  · rw [if_pos c, if_pos c, cat_at l (w / 8) big z _ _ hk, gv_put_all big (by rw [(pow_256 c).1]; exact hlt)]
    omega
  · rw [if_neg c, if_neg c]
    rw [hn_congr (g := dg (l.getD k 0).toNat w) w fun i hi => ?_]
    · rw [hn_dg_all hlt]
      omega
    · have hin : k * w + i < l.length * w := by
        have := Nat.mul_le_mul_right w (show k + 1 ≤ l.length by omega)
        rw [Nat.succ_mul] at this
        omega
      rw [bt_pk (F l w) (F_bit l w) hin, F_at l hi]
theorem U_all (l : List Int) (w : Nat) (big : Bool) (h : Smp l w) (hF : Fit l w l.length) (z : List Int) : tab (U (pkB l w big ++ z) w big) l.length = l :=
  ext_getD (by rw [tab_len]) fun j hj => by
    rw [tab_len] at hj
    rw [tab_get _ hj, U_pack l w big h hF z hj]
theorem pkB_bytes (l : List Int) (w : Nat) (big : Bool) : Bytes (pkB l w big) := by
  unfold pkB
  split
  · exact cat_bytes l _ big _
  · exact pk_bytes (F_bit l w) _
theorem pkB_len (l : List Int) (w : Nat) (big : Bool) : (pkB l w big).length = if wh w then l.length * (w / 8) else (l.length * w + 7) / 8 := by
  unfold pkB
  by_cases c : wh w
  · rw [if_pos c, if_pos c, cat_len]
  · rw [if_neg c, if_neg c, pk_len]
theorem pkB_t (l : List Int) (w : Nat) (big : Bool) : (pkB l w big).length = (l.length * w + 7) / 8 := by
  rw [pkB_len]
  by_cases c : wh w
  · rw [if_pos c]
    obtain ⟨m, hm⟩ : ∃ m, m = w / 8 := ⟨_, rfl⟩
    have hw8 : w = 8 * m := by unfold wh at c; omega
    rw [← hm, hw8, Nat.mul_left_comm]
    omega
  · rw [if_neg c]
/-- a byte of the packed, and where it lies in the other order -/
theorem cat_get (l : List Int) {m : Nat} (hm : 0 < m) (big : Bool) {n i : Nat} (hi : i < n * m) : (cat l m big n).getD i 0 = (putL (l.getD (i / m) 0).toNat m big).getD (i % m) 0 := by
  have hk : i / m < n := Nat.div_lt_of_lt_mul (by rw [Nat.mul_comm]; exact hi)
  have h := cat_at l m big [] n (i / m) hk
  rw [List.append_nil] at h
  rw [← h, getD_take, if_pos (Nat.mod_lt _ hm), getD_drop, Nat.div_add_mod']
theorem put_rev (v m : Nat) (big : Bool) {j : Nat} (hj : j < m) : (putL v m big).getD j 0 = (putL v m (!big)).getD (m - 1 - j) 0 := by
  cases big with
  | true => rw [putL, if_pos rfl, putL, if_neg (by decide), turnK_get _ m j hj]
  | false => rw [putL, if_neg (by decide), putL, if_pos (by decide), turnK_get _ m _ (by omega), show m - 1 - (m - 1 - j) = j by omega]
theorem pkB_rev (l : List Int) {w : Nat} (hw : wh w) (big : Bool) {i : Nat} (hi : i < (pkB l w big).length) : (pkB l w big).getD i 0 = (pkB l w (!big)).getD (i / (w / 8) * (w / 8) + (w / 8) - 1 - i % (w / 8)) 0 := by
  obtain ⟨m, hm⟩ : ∃ m, m = w / 8 := ⟨_, rfl⟩
  have hm0 : 0 < m := by unfold wh at hw; omega
  rw [pkB_len, if_pos hw, ← hm] at hi
  have hmod := Nat.mod_lt i hm0
  have hk : i / m < l.length := Nat.div_lt_of_lt_mul (by rw [Nat.mul_comm]; exact hi)
  have hkm : i / m * m + m ≤ l.length * m := by
    have := Nat.mul_le_mul_right m (show i / m + 1 ≤ l.length by omega)
    rwa [Nat.succ_mul] at this
  obtain ⟨q, hq⟩ : ∃ q, q = i / m * m := ⟨_, rfl⟩
  have hj : q + m - 1 - i % m = q + (m - 1 - i % m) := by omega
  have hx : m - 1 - i % m < m := by omega
  rw [← hq] at hkm
  have hq2 : q + (m - 1 - i % m) = m * (i / m) + (m - 1 - i % m) := by rw [hq, Nat.mul_comm]
  have hd : (q + (m - 1 - i % m)) / m = i / m := by
    rw [hq2, Nat.mul_add_div hm0, Nat.div_eq_of_lt hx, Nat.add_zero]
  have hd2 : (q + (m - 1 - i % m)) % m = m - 1 - i % m := by
    rw [hq2, Nat.mul_add_mod, Nat.mod_eq_of_lt hx]
  rw [pkB, if_pos hw, pkB, if_pos hw, ← hm, ← hq, hj, cat_get l hm0 big hi, cat_get l hm0 (!big) (by omega), hd, hd2]
  exact put_rev _ m big hmod
def okOr (l : List Int) (w : Int) (big : Bool) : Prop := ∃ e : Int, e ≠ 0 ∧ 0 ≤ e ∧ e ≤ 9 ∧ Giv Try.prog 8 [.lst 1 (li .u32 l), .c (.int .i64 w), .c (.bool big)] (retV [.lst 1 [], .c (.int .i64 e)])
theorem samplesAgain_giv (y0 : List Int) (h0 : (y0.length * 4 ≤ 140737488351232 ∧ ∀ z ∈ y0, 0 ≤ z ∧ z ≤ 4294967295)) (y1 : Int) (h1 : (-9223372036854775808 ≤ y1 ∧ y1 ≤ 9223372036854775807)) (y2 : Bool) (h2 : True) : Giv Try.prog 6 [.lst 1 (li .u32 y0), .c (.int .i64 y1), .c (.bool y2)] (.d (.c (.bool true))) := by
  have hl0 := h0.1
  have hI : In 4294967296 y0 := fun z hz => by have := h0.2 z hz; omega
  refine Giv.of (out := [.c (.bool true)]) mixed c6 (Nat.le_of_ble_eq_true rfl) ?_
  simp -dsimp -implicitDefEqProofs (disch := first | omega | (simp only [List.length_append, List.length_cons, List.length_nil, List.length_take, List.length_drop]; omega)) only [a6, ↓aPre, aPost, oneW, allOne, retV, retVA, ↓reduceIte, reduceCtorEq, Nat.reduceAdd, Nat.reduceSub, Nat.reduceMul, Nat.reduceLT, Nat.reduceLeDiff, Nat.reduceEqDiff, Nat.reduceDiv, Nat.reduceMod, Nat.reducePow, Int.reduceAdd, Int.reduceSub, Int.reduceMul, Int.reduceLT, Int.reduceLE, Int.reduceEq, Int.reduceNe, Int.reducePow, Int.reduceToNat, Int.reduceNeg]
  refine call_giv lives_giv ?_
  by_cases hb : y0.length > 300
  · have hb' : (y0.length : Int) > 300 := by omega
    simp -dsimp -implicitDefEqProofs (disch := first | omega | (simp only [List.length_append, List.length_cons, List.length_nil, List.length_take, List.length_drop]; omega)) only [hb', ↓aPre, aPost, oneW, allOne, retV, retVA, ↓reduceIte, reduceCtorEq, Nat.reduceAdd, Nat.reduceSub, Nat.reduceMul, Nat.reduceLT, Nat.reduceLeDiff, Nat.reduceEqDiff, Nat.reduceDiv, Nat.reduceMod, Nat.reducePow, Int.reduceAdd, Int.reduceSub, Int.reduceMul, Int.reduceLT, Int.reduceLE, Int.reduceEq, Int.reduceNe, Int.reducePow, Int.reduceToNat, Int.reduceNeg]
    refine call_giv lives_giv ?_
    simp -dsimp -implicitDefEqProofs (disch := first | omega | (simp only [List.length_append, List.length_cons, List.length_nil, List.length_take, List.length_drop]; omega)) only [↓aPre, aPost, oneW, allOne, retV, retVA, ↓reduceIte, reduceCtorEq, Nat.reduceAdd, Nat.reduceSub, Nat.reduceMul, Nat.reduceLT, Nat.reduceLeDiff, Nat.reduceEqDiff, Nat.reduceDiv, Nat.reduceMod, Nat.reducePow, Int.reduceAdd, Int.reduceSub, Int.reduceMul, Int.reduceLT, Int.reduceLE, Int.reduceEq, Int.reduceNe, Int.reducePow, Int.reduceToNat, Int.reduceNeg]
    exact post_eq rfl
  have hb' : ¬ (y0.length : Int) > 300 := by omega
  have hbad : okOr y0 y1 y2 → awp Try.prog a6.body (retQ a6.res fun ds => leD ds [.c (.bool true)]) (St.init [.lst 1 (li .u32 y0), .c (.int .i64 y1), .c (.bool y2)]) := by
    rintro ⟨e, e0, e1, e2, g⟩
    simp -dsimp -implicitDefEqProofs (disch := first | omega | (simp only [List.length_append, List.length_cons, List.length_nil, List.length_take, List.length_drop]; omega)) only [a6, ↓aPre, aPost, oneW, allOne, retV, retVA, ↓reduceIte, reduceCtorEq, Nat.reduceAdd, Nat.reduceSub, Nat.reduceMul, Nat.reduceLT, Nat.reduceLeDiff, Nat.reduceEqDiff, Nat.reduceDiv, Nat.reduceMod, Nat.reducePow, Int.reduceAdd, Int.reduceSub, Int.reduceMul, Int.reduceLT, Int.reduceLE, Int.reduceEq, Int.reduceNe, Int.reducePow, Int.reduceToNat, Int.reduceNeg]
    refine call_giv lives_giv ?_
    simp -dsimp -implicitDefEqProofs (disch := first | omega | (simp only [List.length_append, List.length_cons, List.length_nil, List.length_take, List.length_drop]; omega)) only [hb', ↓aPre, aPost, oneW, allOne, retV, retVA, ↓reduceIte, reduceCtorEq, Nat.reduceAdd, Nat.reduceSub, Nat.reduceMul, Nat.reduceLT, Nat.reduceLeDiff, Nat.reduceEqDiff, Nat.reduceDiv, Nat.reduceMod, Nat.reducePow, Int.reduceAdd, Int.reduceSub, Int.reduceMul, Int.reduceLT, Int.reduceLE, Int.reduceEq, Int.reduceNe, Int.reducePow, Int.reduceToNat, Int.reduceNeg]
    refine call_giv g ?_
    simp -dsimp -implicitDefEqProofs (disch := first | omega | (simp only [List.length_append, List.length_cons, List.length_nil, List.length_take, List.length_drop]; omega)) only [ibne_t e0, ↓aPre, aPost, oneW, allOne, retV, retVA, ↓reduceIte, reduceCtorEq, Nat.reduceAdd, Nat.reduceSub, Nat.reduceMul, Nat.reduceLT, Nat.reduceLeDiff, Nat.reduceEqDiff, Nat.reduceDiv, Nat.reduceMod, Nat.reducePow, Int.reduceAdd, Int.reduceSub, Int.reduceMul, Int.reduceLT, Int.reduceLE, Int.reduceEq, Int.reduceNe, Int.reducePow, Int.reduceToNat, Int.reduceNeg]
    exact post_eq rfl
  by_cases hw : y1 < 1 ∨ y1 > 32
  · have g := (pack_x y0 y1 y2 (by omega) h1 (if_pos (by omega))).1
    simp -dsimp -implicitDefEqProofs (disch := first | omega | (simp only [List.length_append, List.length_cons, List.length_nil, List.length_take, List.length_drop]; omega)) only [hb', ↓aPre, aPost, oneW, allOne, retV, retVA, ↓reduceIte, reduceCtorEq, Nat.reduceAdd, Nat.reduceSub, Nat.reduceMul, Nat.reduceLT, Nat.reduceLeDiff, Nat.reduceEqDiff, Nat.reduceDiv, Nat.reduceMod, Nat.reducePow, Int.reduceAdd, Int.reduceSub, Int.reduceMul, Int.reduceLT, Int.reduceLE, Int.reduceEq, Int.reduceNe, Int.reducePow, Int.reduceToNat, Int.reduceNeg]
    refine call_giv g ?_
    simp -dsimp -implicitDefEqProofs (disch := first | omega | (simp only [List.length_append, List.length_cons, List.length_nil, List.length_take, List.length_drop]; omega)) only [↓aPre, aPost, oneW, allOne, retV, retVA, ↓reduceIte, reduceCtorEq, Nat.reduceAdd, Nat.reduceSub, Nat.reduceMul, Nat.reduceLT, Nat.reduceLeDiff, Nat.reduceEqDiff, Nat.reduceDiv, Nat.reduceMod, Nat.reducePow, Int.reduceAdd, Int.reduceSub, Int.reduceMul, Int.reduceLT, Int.reduceLE, Int.reduceEq, Int.reduceNe, Int.reducePow, Int.reduceToNat, Int.reduceNeg]
    exact post_eq rfl
  obtain ⟨w, rfl⟩ := Int.eq_ofNat_of_zero_le (show 0 ≤ y1 by omega)
  have hS : Smp y0 w := ⟨by omega, hI, by omega⟩
  rcases pack_two y0 w y2 hS with ⟨hF, g⟩ | ⟨hF, g⟩
  rotate_left
  · simp -dsimp -implicitDefEqProofs (disch := first | omega | (simp only [List.length_append, List.length_cons, List.length_nil, List.length_take, List.length_drop]; omega)) only [hb', ↓aPre, aPost, oneW, allOne, retV, retVA, ↓reduceIte, reduceCtorEq, Nat.reduceAdd, Nat.reduceSub, Nat.reduceMul, Nat.reduceLT, Nat.reduceLeDiff, Nat.reduceEqDiff, Nat.reduceDiv, Nat.reduceMod, Nat.reducePow, Int.reduceAdd, Int.reduceSub, Int.reduceMul, Int.reduceLT, Int.reduceLE, Int.reduceEq, Int.reduceNe, Int.reducePow, Int.reduceToNat, Int.reduceNeg]
    refine call_giv g ?_
    simp -dsimp -implicitDefEqProofs (disch := first | omega | (simp only [List.length_append, List.length_cons, List.length_nil, List.length_take, List.length_drop]; omega)) only [↓aPre, aPost, oneW, allOne, retV, retVA, ↓reduceIte, reduceCtorEq, Nat.reduceAdd, Nat.reduceSub, Nat.reduceMul, Nat.reduceLT, Nat.reduceLeDiff, Nat.reduceEqDiff, Nat.reduceDiv, Nat.reduceMod, Nat.reducePow, Int.reduceAdd, Int.reduceSub, Int.reduceMul, Int.reduceLT, Int.reduceLE, Int.reduceEq, Int.reduceNe, Int.reducePow, Int.reduceToNat, Int.reduceNeg]
    exact post_eq rfl
  rcases pack_two y0 w (!y2) hS with ⟨_, g'⟩ | ⟨hF', _⟩
  rotate_left
  · exact absurd hF hF'
  obtain ⟨t, ht⟩ : ∃ t, t = (y0.length * w + 7) / 8 := ⟨_, rfl⟩
  have hwb := hS.w
  have ll := pkB_t y0 w y2
  have ll' := pkB_t y0 w (!y2)
  rw [← ht] at ll ll'
  have hlw : y0.length * w ≤ 300 * 32 := Nat.mul_le_mul (by omega) hwb.2
  have hBy := pkB_bytes y0 w y2
  have hU : Unp (pkB y0 w y2 ++ [7]) y0.length w t := ⟨by rw [List.length_append, ll]; simp; omega, hBy.app (fun z hz => by rw [List.mem_singleton.1 hz]; decide), by omega, by omega, ht, by rw [List.length_append, ll]; omega⟩
  have gu := unpack_giv _ _ _ _ y2 hU
  rw [U_all y0 w y2 hS hF [7]] at gu
  have gs := same_giv y0 (by omega)
  by_cases hwh : wh w
  rotate_left
  · have h16 : ¬ (w : Int) = 16 := by unfold wh at hwh; omega
    have h32 : ¬ (w : Int) = 32 := by unfold wh at hwh; omega
    have hee : pkB y0 w (!y2) = pkB y0 w y2 := by unfold pkB; rw [if_neg hwh, if_neg hwh]
    simp -dsimp -implicitDefEqProofs (disch := first | omega | (simp only [List.length_append, List.length_cons, List.length_nil, List.length_take, List.length_drop]; omega)) only [hb', ↓aPre, aPost, oneW, allOne, retV, retVA, ↓reduceIte, reduceCtorEq, Nat.reduceAdd, Nat.reduceSub, Nat.reduceMul, Nat.reduceLT, Nat.reduceLeDiff, Nat.reduceEqDiff, Nat.reduceDiv, Nat.reduceMod, Nat.reducePow, Int.reduceAdd, Int.reduceSub, Int.reduceMul, Int.reduceLT, Int.reduceLE, Int.reduceEq, Int.reduceNe, Int.reducePow, Int.reduceToNat, Int.reduceNeg]
    refine call_giv g ?_
    simp -dsimp -implicitDefEqProofs (disch := first | omega | (simp only [List.length_append, List.length_cons, List.length_nil, List.length_take, List.length_drop]; omega)) only [ll, ↓aPre, aPost, oneW, allOne, retV, retVA, ↓reduceIte, reduceCtorEq, Nat.reduceAdd, Nat.reduceSub, Nat.reduceMul, Nat.reduceLT, Nat.reduceLeDiff, Nat.reduceEqDiff, Nat.reduceDiv, Nat.reduceMod, Nat.reducePow, Int.reduceAdd, Int.reduceSub, Int.reduceMul, Int.reduceLT, Int.reduceLE, Int.reduceEq, Int.reduceNe, Int.reducePow, Int.reduceToNat, Int.reduceNeg]
    refine call_giv gu ?_
    simp -dsimp -implicitDefEqProofs (disch := first | omega | (simp only [List.length_append, List.length_cons, List.length_nil, List.length_take, List.length_drop]; omega)) only [↓aPre, aPost, oneW, allOne, retV, retVA, ↓reduceIte, reduceCtorEq, Nat.reduceAdd, Nat.reduceSub, Nat.reduceMul, Nat.reduceLT, Nat.reduceLeDiff, Nat.reduceEqDiff, Nat.reduceDiv, Nat.reduceMod, Nat.reducePow, Int.reduceAdd, Int.reduceSub, Int.reduceMul, Int.reduceLT, Int.reduceLE, Int.reduceEq, Int.reduceNe, Int.reducePow, Int.reduceToNat, Int.reduceNeg]
    refine call_giv gs ?_
    simp -dsimp -implicitDefEqProofs (disch := first | omega | (simp only [List.length_append, List.length_cons, List.length_nil, List.length_take, List.length_drop]; omega)) only [↓aPre, aPost, oneW, allOne, retV, retVA, ↓reduceIte, reduceCtorEq, Nat.reduceAdd, Nat.reduceSub, Nat.reduceMul, Nat.reduceLT, Nat.reduceLeDiff, Nat.reduceEqDiff, Nat.reduceDiv, Nat.reduceMod, Nat.reducePow, Int.reduceAdd, Int.reduceSub, Int.reduceMul, Int.reduceLT, Int.reduceLE, Int.reduceEq, Int.reduceNe, Int.reducePow, Int.reduceToNat, Int.reduceNeg]
    refine call_giv g' ?_
    simp -dsimp -implicitDefEqProofs (disch := first | omega | (simp only [List.length_append, List.length_cons, List.length_nil, List.length_take, List.length_drop]; omega)) only [ll, ll', ibne_f, ibne_t h16, ibne_t h32, hee, ↓aPre, aPost, oneW, allOne, retV, retVA, ↓reduceIte, reduceCtorEq, Nat.reduceAdd, Nat.reduceSub, Nat.reduceMul, Nat.reduceLT, Nat.reduceLeDiff, Nat.reduceEqDiff, Nat.reduceDiv, Nat.reduceMod, Nat.reducePow, Int.reduceAdd, Int.reduceSub, Int.reduceMul, Int.reduceLT, Int.reduceLE, Int.reduceEq, Int.reduceNe, Int.reducePow, Int.reduceToNat, Int.reduceNeg]
    exact post_eq rfl
  have hrev := fun i hi => pkB_rev y0 hwh y2 (i := i) hi
  obtain ⟨r, hr⟩ : ∃ r, r = pkB y0 w y2 := ⟨_, rfl⟩
  obtain ⟨r', hr'⟩ : ∃ r', r' = pkB y0 w (!y2) := ⟨_, rfl⟩
  rw [← hr] at ll hrev g gu
  rw [← hr'] at ll' hrev g'
  rcases hwh with rfl | rfl
  · have nw : ((16 : Nat) : Int) = 16 := rfl
    have nm : (16 : Int) / 8 = 2 := rfl
    rw [nw] at g g' gu
    have ht8 : t = y0.length * 2 := by omega
    simp -dsimp -implicitDefEqProofs (disch := first | omega | (simp only [List.length_append, List.length_cons, List.length_nil, List.length_take, List.length_drop]; omega)) only [hb', ↓aPre, aPost, oneW, allOne, retV, retVA, ↓reduceIte, reduceCtorEq, Nat.reduceAdd, Nat.reduceSub, Nat.reduceMul, Nat.reduceLT, Nat.reduceLeDiff, Nat.reduceEqDiff, Nat.reduceDiv, Nat.reduceMod, Nat.reducePow, Int.reduceAdd, Int.reduceSub, Int.reduceMul, Int.reduceLT, Int.reduceLE, Int.reduceEq, Int.reduceNe, Int.reducePow, Int.reduceToNat, Int.reduceNeg]
    refine call_giv g ?_
    simp -dsimp -implicitDefEqProofs (disch := first | omega | (simp only [List.length_append, List.length_cons, List.length_nil, List.length_take, List.length_drop]; omega)) only [ll, nw, ↓aPre, aPost, oneW, allOne, retV, retVA, ↓reduceIte, reduceCtorEq, Nat.reduceAdd, Nat.reduceSub, Nat.reduceMul, Nat.reduceLT, Nat.reduceLeDiff, Nat.reduceEqDiff, Nat.reduceDiv, Nat.reduceMod, Nat.reducePow, Int.reduceAdd, Int.reduceSub, Int.reduceMul, Int.reduceLT, Int.reduceLE, Int.reduceEq, Int.reduceNe, Int.reducePow, Int.reduceToNat, Int.reduceNeg]
    refine call_giv gu ?_
    simp -dsimp -implicitDefEqProofs (disch := first | omega | (simp only [List.length_append, List.length_cons, List.length_nil, List.length_take, List.length_drop]; omega)) only [↓aPre, aPost, oneW, allOne, retV, retVA, ↓reduceIte, reduceCtorEq, Nat.reduceAdd, Nat.reduceSub, Nat.reduceMul, Nat.reduceLT, Nat.reduceLeDiff, Nat.reduceEqDiff, Nat.reduceDiv, Nat.reduceMod, Nat.reducePow, Int.reduceAdd, Int.reduceSub, Int.reduceMul, Int.reduceLT, Int.reduceLE, Int.reduceEq, Int.reduceNe, Int.reducePow, Int.reduceToNat, Int.reduceNeg]
    refine call_giv gs ?_
    simp -dsimp -implicitDefEqProofs (disch := first | omega | (simp only [List.length_append, List.length_cons, List.length_nil, List.length_take, List.length_drop]; omega)) only [nw, ↓aPre, aPost, oneW, allOne, retV, retVA, ↓reduceIte, reduceCtorEq, Nat.reduceAdd, Nat.reduceSub, Nat.reduceMul, Nat.reduceLT, Nat.reduceLeDiff, Nat.reduceEqDiff, Nat.reduceDiv, Nat.reduceMod, Nat.reducePow, Int.reduceAdd, Int.reduceSub, Int.reduceMul, Int.reduceLT, Int.reduceLE, Int.reduceEq, Int.reduceNe, Int.reducePow, Int.reduceToNat, Int.reduceNeg]
    refine call_giv g' ?_
    simp -dsimp -implicitDefEqProofs (disch := first | omega | (simp only [List.length_append, List.length_cons, List.length_nil, List.length_take, List.length_drop]; omega)) only [ll, ll', ibne_f, nw, ↓aPre, aPost, oneW, allOne, retV, retVA, ↓reduceIte, reduceCtorEq, Nat.reduceAdd, Nat.reduceSub, Nat.reduceMul, Nat.reduceLT, Nat.reduceLeDiff, Nat.reduceEqDiff, Nat.reduceDiv, Nat.reduceMod, Nat.reducePow, Int.reduceAdd, Int.reduceSub, Int.reduceMul, Int.reduceLT, Int.reduceLE, Int.reduceEq, Int.reduceNe, Int.reducePow, Int.reduceToNat, Int.reduceNeg]
    refine loop_of (fun s => ∃ (k : Nat), k ≤ t ∧ s.tm 1 = .d (.c (.int .i64 16)) ∧ s.tm 7 = .d (.lst 1 (li .u8 r)) ∧ s.tm 11 = .d (.lst 1 (li .u8 r')) ∧ s.tm 85 = .d (.c (.int .i64 t)) ∧ s.tm 86 = .d (.c (.int .i64 k))) (fun s => t - (avN (s.tm 86)).toNat) ?_ ?_
    · refine ⟨0, Nat.zero_le _, ?_⟩
      simp -dsimp -implicitDefEqProofs (disch := first | omega | (simp only [List.length_append, List.length_cons, List.length_nil, List.length_take, List.length_drop]; omega)) only [Int.natCast_zero, ↓aPre, aPost, oneW, allOne, retV, retVA, ↓reduceIte, reduceCtorEq, Nat.reduceAdd, Nat.reduceSub, Nat.reduceMul, Nat.reduceLT, Nat.reduceLeDiff, Nat.reduceEqDiff, Nat.reduceDiv, Nat.reduceMod, Nat.reducePow, Int.reduceAdd, Int.reduceSub, Int.reduceMul, Int.reduceLT, Int.reduceLE, Int.reduceEq, Int.reduceNe, Int.reducePow, Int.reduceToNat, Int.reduceNeg]
    rintro s ⟨k, hk, hs⟩
    by_cases hlt : k < t
    · have hx := hrev k (by omega)
      rw [show k / (16 / 8) * (16 / 8) + 16 / 8 - 1 - k % (16 / 8) = k / 2 * 2 + 2 - 1 - k % 2 by omega] at hx
      have hi1 : (k : Int) / 2 * 2 + 2 - 1 - (k : Int) % 2 = ((k / 2 * 2 + 2 - 1 - k % 2 : Nat) : Int) := by omega
      have hlt2 : k / 2 * 2 + 2 - 1 - k % 2 < t := by omega
      obtain ⟨q, hq⟩ : ∃ q, q = k / 2 * 2 + 2 - 1 - k % 2 := ⟨_, rfl⟩
      rw [← hq] at hx hi1 hlt2
      simp -dsimp -implicitDefEqProofs (disch := first | omega | (simp only [List.length_append, List.length_cons, List.length_nil, List.length_take, List.length_drop]; omega)) only [hs, ll, ll', nm, hi1, hx, ibne_f, ↓aPre, aPost, oneW, allOne, retV, retVA, ↓reduceIte, reduceCtorEq, Nat.reduceAdd, Nat.reduceSub, Nat.reduceMul, Nat.reduceLT, Nat.reduceLeDiff, Nat.reduceEqDiff, Nat.reduceDiv, Nat.reduceMod, Nat.reducePow, Int.reduceAdd, Int.reduceSub, Int.reduceMul, Int.reduceLT, Int.reduceLE, Int.reduceEq, Int.reduceNe, Int.reducePow, Int.reduceToNat, Int.reduceNeg]
      refine round_of ⟨k + 1, by omega, ?_⟩ ?_
      · simp -dsimp -implicitDefEqProofs (disch := first | omega | (simp only [List.length_append, List.length_cons, List.length_nil, List.length_take, List.length_drop]; omega)) only [hs, ↓aPre, aPost, oneW, allOne, retV, retVA, ↓reduceIte, reduceCtorEq, Nat.reduceAdd, Nat.reduceSub, Nat.reduceMul, Nat.reduceLT, Nat.reduceLeDiff, Nat.reduceEqDiff, Nat.reduceDiv, Nat.reduceMod, Nat.reducePow, Int.reduceAdd, Int.reduceSub, Int.reduceMul, Int.reduceLT, Int.reduceLE, Int.reduceEq, Int.reduceNe, Int.reducePow, Int.reduceToNat, Int.reduceNeg]
      · simp -dsimp -implicitDefEqProofs (disch := first | omega | (simp only [List.length_append, List.length_cons, List.length_nil, List.length_take, List.length_drop]; omega)) only [hs, ↓aPre, aPost, oneW, allOne, retV, retVA, ↓reduceIte, reduceCtorEq, Nat.reduceAdd, Nat.reduceSub, Nat.reduceMul, Nat.reduceLT, Nat.reduceLeDiff, Nat.reduceEqDiff, Nat.reduceDiv, Nat.reduceMod, Nat.reducePow, Int.reduceAdd, Int.reduceSub, Int.reduceMul, Int.reduceLT, Int.reduceLE, Int.reduceEq, Int.reduceNe, Int.reducePow, Int.reduceToNat, Int.reduceNeg]
        omega
    · obtain rfl : k = t := by omega
      simp -dsimp -implicitDefEqProofs (disch := first | omega | (simp only [List.length_append, List.length_cons, List.length_nil, List.length_take, List.length_drop]; omega)) only [hs, ↓aPre, aPost, oneW, allOne, retV, retVA, ↓reduceIte, reduceCtorEq, Nat.reduceAdd, Nat.reduceSub, Nat.reduceMul, Nat.reduceLT, Nat.reduceLeDiff, Nat.reduceEqDiff, Nat.reduceDiv, Nat.reduceMod, Nat.reducePow, Int.reduceAdd, Int.reduceSub, Int.reduceMul, Int.reduceLT, Int.reduceLE, Int.reduceEq, Int.reduceNe, Int.reducePow, Int.reduceToNat, Int.reduceNeg]
      exact post_eq rfl
  · have nw : ((32 : Nat) : Int) = 32 := rfl
    have nm : (32 : Int) / 8 = 4 := rfl
    rw [nw] at g g' gu
    have ht8 : t = y0.length * 4 := by omega
    simp -dsimp -implicitDefEqProofs (disch := first | omega | (simp only [List.length_append, List.length_cons, List.length_nil, List.length_take, List.length_drop]; omega)) only [hb', ↓aPre, aPost, oneW, allOne, retV, retVA, ↓reduceIte, reduceCtorEq, Nat.reduceAdd, Nat.reduceSub, Nat.reduceMul, Nat.reduceLT, Nat.reduceLeDiff, Nat.reduceEqDiff, Nat.reduceDiv, Nat.reduceMod, Nat.reducePow, Int.reduceAdd, Int.reduceSub, Int.reduceMul, Int.reduceLT, Int.reduceLE, Int.reduceEq, Int.reduceNe, Int.reducePow, Int.reduceToNat, Int.reduceNeg]
    refine call_giv g ?_
    simp -dsimp -implicitDefEqProofs (disch := first | omega | (simp only [List.length_append, List.length_cons, List.length_nil, List.length_take, List.length_drop]; omega)) only [ll, nw, ↓aPre, aPost, oneW, allOne, retV, retVA, ↓reduceIte, reduceCtorEq, Nat.reduceAdd, Nat.reduceSub, Nat.reduceMul, Nat.reduceLT, Nat.reduceLeDiff, Nat.reduceEqDiff, Nat.reduceDiv, Nat.reduceMod, Nat.reducePow, Int.reduceAdd, Int.reduceSub, Int.reduceMul, Int.reduceLT, Int.reduceLE, Int.reduceEq, Int.reduceNe, Int.reducePow, Int.reduceToNat, Int.reduceNeg]
    refine call_giv gu ?_
    simp -dsimp -implicitDefEqProofs (disch := first | omega | (simp only [List.length_append, List.length_cons, List.length_nil, List.length_take, List.length_drop]; omega)) only [↓aPre, aPost, oneW, allOne, retV, retVA, ↓reduceIte, reduceCtorEq, Nat.reduceAdd, Nat.reduceSub, Nat.reduceMul, Nat.reduceLT, Nat.reduceLeDiff, Nat.reduceEqDiff, Nat.reduceDiv, Nat.reduceMod, Nat.reducePow, Int.reduceAdd, Int.reduceSub, Int.reduceMul, Int.reduceLT, Int.reduceLE, Int.reduceEq, Int.reduceNe, Int.reducePow, Int.reduceToNat, Int.reduceNeg]
    refine call_giv gs ?_
    simp -dsimp -implicitDefEqProofs (disch := first | omega | (simp only [List.length_append, List.length_cons, List.length_nil, List.length_take, List.length_drop]; omega)) only [nw, ↓aPre, aPost, oneW, allOne, retV, retVA, ↓reduceIte, reduceCtorEq, Nat.reduceAdd, Nat.reduceSub, Nat.reduceMul, Nat.reduceLT, Nat.reduceLeDiff, Nat.reduceEqDiff, Nat.reduceDiv, Nat.reduceMod, Nat.reducePow, Int.reduceAdd, Int.reduceSub, Int.reduceMul, Int.reduceLT, Int.reduceLE, Int.reduceEq, Int.reduceNe, Int.reducePow, Int.reduceToNat, Int.reduceNeg]
    refine call_giv g' ?_
    simp -dsimp -implicitDefEqProofs (disch := first | omega | (simp only [List.length_append, List.length_cons, List.length_nil, List.length_take, List.length_drop]; omega)) only [ll, ll', ibne_f, nw, ↓aPre, aPost, oneW, allOne, retV, retVA, ↓reduceIte, reduceCtorEq, Nat.reduceAdd, Nat.reduceSub, Nat.reduceMul, Nat.reduceLT, Nat.reduceLeDiff, Nat.reduceEqDiff, Nat.reduceDiv, Nat.reduceMod, Nat.reducePow, Int.reduceAdd, Int.reduceSub, Int.reduceMul, Int.reduceLT, Int.reduceLE, Int.reduceEq, Int.reduceNe, Int.reducePow, Int.reduceToNat, Int.reduceNeg]
    refine loop_of (fun s => ∃ (k : Nat), k ≤ t ∧ s.tm 1 = .d (.c (.int .i64 32)) ∧ s.tm 7 = .d (.lst 1 (li .u8 r)) ∧ s.tm 11 = .d (.lst 1 (li .u8 r')) ∧ s.tm 85 = .d (.c (.int .i64 t)) ∧ s.tm 86 = .d (.c (.int .i64 k))) (fun s => t - (avN (s.tm 86)).toNat) ?_ ?_
    · refine ⟨0, Nat.zero_le _, ?_⟩
      simp -dsimp -implicitDefEqProofs (disch := first | omega | (simp only [List.length_append, List.length_cons, List.length_nil, List.length_take, List.length_drop]; omega)) only [Int.natCast_zero, ↓aPre, aPost, oneW, allOne, retV, retVA, ↓reduceIte, reduceCtorEq, Nat.reduceAdd, Nat.reduceSub, Nat.reduceMul, Nat.reduceLT, Nat.reduceLeDiff, Nat.reduceEqDiff, Nat.reduceDiv, Nat.reduceMod, Nat.reducePow, Int.reduceAdd, Int.reduceSub, Int.reduceMul, Int.reduceLT, Int.reduceLE, Int.reduceEq, Int.reduceNe, Int.reducePow, Int.reduceToNat, Int.reduceNeg]
    rintro s ⟨k, hk, hs⟩
    by_cases hlt : k < t
    · have hx := hrev k (by omega)
      rw [show k / (32 / 8) * (32 / 8) + 32 / 8 - 1 - k % (32 / 8) = k / 4 * 4 + 4 - 1 - k % 4 by omega] at hx
      have hi1 : (k : Int) / 4 * 4 + 4 - 1 - (k : Int) % 4 = ((k / 4 * 4 + 4 - 1 - k % 4 : Nat) : Int) := by omega
      have hlt2 : k / 4 * 4 + 4 - 1 - k % 4 < t := by omega
      obtain ⟨q, hq⟩ : ∃ q, q = k / 4 * 4 + 4 - 1 - k % 4 := ⟨_, rfl⟩
      rw [← hq] at hx hi1 hlt2
      simp -dsimp -implicitDefEqProofs (disch := first | omega | (simp only [List.length_append, List.length_cons, List.length_nil, List.length_take, List.length_drop]; omega)) only [hs, ll, ll', nm, hi1, hx, ibne_f, ↓aPre, aPost, oneW, allOne, retV, retVA, ↓reduceIte, reduceCtorEq, Nat.reduceAdd, Nat.reduceSub, Nat.reduceMul, Nat.reduceLT, Nat.reduceLeDiff, Nat.reduceEqDiff, Nat.reduceDiv, Nat.reduceMod, Nat.reducePow, Int.reduceAdd, Int.reduceSub, Int.reduceMul, Int.reduceLT, Int.reduceLE, Int.reduceEq, Int.reduceNe, Int.reducePow, Int.reduceToNat, Int.reduceNeg]
      refine round_of ⟨k + 1, by omega, ?_⟩ ?_
      · simp -dsimp -implicitDefEqProofs (disch := first | omega | (simp only [List.length_append, List.length_cons, List.length_nil, List.length_take, List.length_drop]; omega)) only [hs, ↓aPre, aPost, oneW, allOne, retV, retVA, ↓reduceIte, reduceCtorEq, Nat.reduceAdd, Nat.reduceSub, Nat.reduceMul, Nat.reduceLT, Nat.reduceLeDiff, Nat.reduceEqDiff, Nat.reduceDiv, Nat.reduceMod, Nat.reducePow, Int.reduceAdd, Int.reduceSub, Int.reduceMul, Int.reduceLT, Int.reduceLE, Int.reduceEq, Int.reduceNe, Int.reducePow, Int.reduceToNat, Int.reduceNeg]
      · simp -dsimp -implicitDefEqProofs (disch := first | omega | (simp only [List.length_append, List.length_cons, List.length_nil, List.length_take, List.length_drop]; omega)) only [hs, ↓aPre, aPost, oneW, allOne, retV, retVA, ↓reduceIte, reduceCtorEq, Nat.reduceAdd, Nat.reduceSub, Nat.reduceMul, Nat.reduceLT, Nat.reduceLeDiff, Nat.reduceEqDiff, Nat.reduceDiv, Nat.reduceMod, Nat.reducePow, Int.reduceAdd, Int.reduceSub, Int.reduceMul, Int.reduceLT, Int.reduceLE, Int.reduceEq, Int.reduceNe, Int.reducePow, Int.reduceToNat, Int.reduceNeg]
        omega
    · obtain rfl : k = t := by omega
      simp -dsimp -implicitDefEqProofs (disch := first | omega | (simp only [List.length_append, List.length_cons, List.length_nil, List.length_take, List.length_drop]; omega)) only [hs, ↓aPre, aPost, oneW, allOne, retV, retVA, ↓reduceIte, reduceCtorEq, Nat.reduceAdd, Nat.reduceSub, Nat.reduceMul, Nat.reduceLT, Nat.reduceLeDiff, Nat.reduceEqDiff, Nat.reduceDiv, Nat.reduceMod, Nat.reducePow, Int.reduceAdd, Int.reduceSub, Int.reduceMul, Int.reduceLT, Int.reduceLE, Int.reduceEq, Int.reduceNe, Int.reducePow, Int.reduceToNat, Int.reduceNeg]
      exact post_eq rfl
end Go.Proofs.Ytlhmhopgbkmafaa

/- IfdHeads: the law's function gives true of all data. No condition but that whole numbers are of their kinds. -/
import Derived.Test.YtkdkhngdilhneaaWReadHead
set_option linter.unusedSimpArgs false
set_option linter.unusedVariables false
set_option maxRecDepth 8000
set_option maxHeartbeats 4000000
namespace Go.Proofs.Ytkdkhngdilhneaa
open Go.Eng Go.RowKit
theorem cut_mid (a c d : List Int) {p n : Nat} (ha : a.length = p) (hc : c.length = n) : ((a ++ (c ++ d)).drop p).take n = c := by
  rw [List.drop_append, List.drop_eq_nil_of_le (by omega), List.nil_append, ha, Nat.sub_self, List.drop_zero, List.take_append, hc, Nat.sub_self, List.take_zero, List.append_nil, List.take_of_length_le (by omega)]
theorem gk_put (a d : List Int) {p n v : Nat} (big : Bool) (ha : a.length = p) (hv : v < 256 ^ n) : gk (a ++ (putL v n big ++ d)) p n big = v := by
  rw [gk, cut_mid a _ d ha (putL_len v n big), gv_put_all big hv]
theorem magic_len (big : Bool) : (magic big).length = 2 := by cases big <;> rfl
theorem magic_bytes (big : Bool) : Bytes (magic big) := by
  cases big
  · exact bytes2 (by decide) (by decide)
  · exact bytes2 (by decide) (by decide)
theorem head_n (big : Bool) (at_ : Nat) : headL big false at_ = magic big ++ (putL 42 2 big ++ (putL at_ 4 big ++ [])) := by simp [headL, hvs, cc]
theorem head_w (big : Bool) (at_ : Nat) : headL big true at_ = magic big ++ (putL 43 2 big ++ (putL 8 2 big ++ (putL 0 2 big ++ (putL at_ 8 big ++ [])))) := by simp [headL, hvs, cc]
theorem head_len (big wide : Bool) (at_ : Nat) : (headL big wide at_).length = if wide = true then 16 else 8 := by
  cases wide
  · rw [head_n, List.length_append, List.length_append, List.length_append, magic_len, putL_len, putL_len]; rfl
  · rw [head_w, List.length_append, List.length_append, List.length_append, List.length_append, List.length_append, magic_len, putL_len, putL_len, putL_len, putL_len]; rfl
theorem head_bytes (big wide : Bool) (at_ : Nat) : Bytes (headL big wide at_) := by
  cases wide
  · rw [head_n]
    exact (magic_bytes big).app ((putL_bytes _ _ _).app ((putL_bytes _ _ _).app Bytes.nil))
  · rw [head_w]
    exact (magic_bytes big).app ((putL_bytes _ _ _).app ((putL_bytes _ _ _).app ((putL_bytes _ _ _).app ((putL_bytes _ _ _).app Bytes.nil))))
theorem head_mg (big wide : Bool) (at_ : Nat) : (headL big wide at_).getD 0 0 = mg big ∧ (headL big wide at_).getD 1 0 = mg big := by
  have e : ∃ d, headL big wide at_ = magic big ++ d := ⟨_, rfl⟩
  obtain ⟨d, e⟩ := e
  rw [e]
  cases big <;> exact ⟨rfl, rfl⟩
/-- what was written is read -/
theorem again_t (big wide : Bool) (at_ : Nat) (hat : at_ < 18446744073709551616) (ok : wide = true ∨ at_ < 4294967296) : Giv Try.prog 8 [.lst 1 (li .u8 (headL big wide at_))] (retV [hD big wide at_, .c (.int .i64 0)]) := by
  have hl := head_len big wide at_
  have hB := head_bytes big wide at_
  have hm := head_mg big wide at_
  cases wide
  · rw [if_neg (by decide)] at hl
    have i1 : gk (headL big false at_) 2 2 big = 42 := by rw [head_n]; exact gk_put _ _ big (magic_len big) (by decide)
    have i2 : gk (headL big false at_) 4 4 big = at_ := by
      rw [head_n, ← List.append_assoc]
      exact gk_put _ _ big (by rw [List.length_append, magic_len, putL_len]) (ok.resolve_left (by decide))
    have := read_n_t (headL big false at_) big (by omega) hB (by omega) hm.1 hm.2 i1
    rw [i2] at this
    exact this
  · rw [if_pos rfl] at hl
    have i1 : gk (headL big true at_) 2 2 big = 43 := by rw [head_w]; exact gk_put _ _ big (magic_len big) (by decide)
    have i2 : gk (headL big true at_) 4 2 big = 8 := by
      rw [head_w, ← List.append_assoc]
      exact gk_put _ _ big (by rw [List.length_append, magic_len, putL_len]) (by decide)
    have i3 : gk (headL big true at_) 6 2 big = 0 := by
      rw [head_w, ← List.append_assoc, ← List.append_assoc]
      exact gk_put _ _ big (by rw [List.length_append, List.length_append, magic_len, putL_len, putL_len]) (by decide)
    have i4 : gk (headL big true at_) 8 8 big = at_ := by
      rw [head_w, ← List.append_assoc, ← List.append_assoc, ← List.append_assoc]
      exact gk_put _ _ big (by rw [List.length_append, List.length_append, List.length_append, magic_len, putL_len, putL_len, putL_len]) hat
    have := read_w_t (headL big true at_) big (by omega) hB (by omega) hm.1 hm.2 i1 (by omega) i2 i3
    rw [i4] at this
    exact this
theorem read_all (b : List Int) (hl : b.length ≤ 100000) (hB : Bytes b) : ∃ (big wide : Bool) (at_ e : Int), 0 ≤ e ∧ e ≤ 9 ∧ 0 ≤ at_ ∧ at_ < 18446744073709551616 ∧ Giv Try.prog 8 [.lst 1 (li .u8 b)] (retV [hD big wide at_, .c (.int .i64 e)]) ∧ Giv Try.prog 9 [.c (.string (strOfNums b))] (retV [hD big wide at_, .c (.int .i64 e)]) := by
  by_cases h4 : b.length < 4
  · exact ⟨_, _, _, _, by decide, by decide, by decide, by decide, (read_short b h4).1, (read_short b h4).2⟩
  have h : 4 ≤ b.length := by omega
  by_cases hm : b.getD 0 0 = b.getD 1 0 ∧ (b.getD 0 0 = 73 ∨ b.getD 0 0 = 77)
  rotate_left
  · exact ⟨_, _, _, _, by decide, by decide, by decide, by decide, read_bad b hl hB h hm, rread_bad b hl hB h hm⟩
  obtain ⟨big, h0⟩ : ∃ big, b.getD 0 0 = mg big := by
    rcases hm.2 with e | e
    · exact ⟨false, e⟩
    · exact ⟨true, e⟩
  have h1 : b.getD 1 0 = mg big := hm.1.symm.trans h0
  by_cases i42 : gk b 2 2 big = 42
  · by_cases h8 : b.length < 8
    · exact ⟨_, _, _, _, by decide, by decide, by decide, by decide, read_n_e b big hl hB h h0 h1 i42 h8, rread_n_e b big hl hB h h0 h1 i42 h8⟩
    · have hb := gk_b hB 4 4 big (by decide)
      exact ⟨_, _, _, _, by decide, by decide, hb.1, hb.2, read_n_t b big hl hB (by omega) h0 h1 i42, rread_n_t b big hl hB h h0 h1 i42 (by omega)⟩
  by_cases i43 : gk b 2 2 big = 43
  rotate_left
  · exact ⟨_, _, _, _, by decide, by decide, by decide, by decide, read_id b big hl hB h h0 h1 ⟨i42, i43⟩, rread_id b big hl hB h h0 h1 ⟨i42, i43⟩⟩
  by_cases h8 : b.length < 8
  · by_cases h6 : b.length < 6
    · exact ⟨_, _, _, _, by decide, by decide, by decide, by decide, read_w_s1 b big hl hB h h0 h1 i43 h6, rread_w_s b big hl hB h h0 h1 i43 h8⟩
    · exact ⟨_, _, _, _, by decide, by decide, by decide, by decide, read_w_s2 b big hl hB h h0 h1 i43 (by omega) h8, rread_w_s b big hl hB h h0 h1 i43 h8⟩
  by_cases ok : gk b 4 2 big = 8
  rotate_left
  · exact ⟨_, _, _, _, by decide, by decide, by decide, by decide, read_w_b1 b big hl hB h h0 h1 i43 (by omega) ok, rread_w_b1 b big hl hB h h0 h1 i43 (by omega) ok⟩
  by_cases ok2 : gk b 6 2 big = 0
  rotate_left
  · exact ⟨_, _, _, _, by decide, by decide, by decide, by decide, read_w_b2 b big hl hB h h0 h1 i43 (by omega) ok ok2, rread_w_b2 b big hl hB h h0 h1 i43 (by omega) ok ok2⟩
  by_cases h16 : b.length < 16
  · exact ⟨_, _, _, _, by decide, by decide, by decide, by decide, read_w_e b big hl hB h h0 h1 i43 (by omega) h16 ok ok2, rread_w_e b big hl hB h h0 h1 i43 (by omega) h16 ok ok2⟩
  · have hb := gk_b hB 8 8 big (by decide)
    exact ⟨_, _, _, _, by decide, by decide, hb.1, hb.2, read_w_t b big hl hB h h0 h1 i43 (by omega) ok ok2, rread_w_t b big hl hB h h0 h1 i43 (by omega) ok ok2⟩
theorem lives_giv : Giv Try.prog 7 [] (retV [.c (.bool true)]) := by
  refine Giv.of mixed c7 (Nat.le_of_ble_eq_true rfl) ?_
  have hw : Giv Try.prog 10 [.agg [.c (.bool false), .c (.bool false), .c (.int .u64 8)]] (retV [.lst 1 (li .u8 [73, 73, 42, 0, 8, 0, 0, 0]), .c (.int .i64 0)]) := whead_t false false 8 (by decide) (.inr (by decide))
  have hr : Giv Try.prog 8 [.lst 1 (li .u8 [73, 73, 42, 0, 8, 0, 0, 0])] (retV [hD false false 8, .c (.int .i64 0)]) := again_t false false 8 (by decide) (.inr (by decide))
  have s0 := hsize_giv false
  have s1 := hsize_giv true
  rw [hD] at hr
  simp -dsimp -implicitDefEqProofs (disch := first | omega | (simp only [List.length_append, List.length_cons, List.length_nil, List.length_take, List.length_drop]; omega)) only [a7, ↓aPre, aPost, oneW, allOne, retV, retVA, simprocAttr]
  refine call_giv hw ?_
  simp -dsimp -implicitDefEqProofs (disch := first | omega | (simp only [List.length_append, List.length_cons, List.length_nil, List.length_take, List.length_drop]; omega)) only [↓aPre, aPost, oneW, allOne, retV, retVA, simprocAttr]
  refine call_giv hr ?_
  simp -dsimp -implicitDefEqProofs (disch := first | omega | (simp only [List.length_append, List.length_cons, List.length_nil, List.length_take, List.length_drop]; omega)) only [Bool.and_true, beq_self_eq_true, ↓aPre, aPost, oneW, allOne, retV, retVA, simprocAttr]
  refine call_giv s0 ?_
  simp -dsimp -implicitDefEqProofs (disch := first | omega | (simp only [List.length_append, List.length_cons, List.length_nil, List.length_take, List.length_drop]; omega)) only [Bool.and_true, beq_self_eq_true, ↓aPre, aPost, oneW, allOne, retV, retVA, simprocAttr]
  refine call_giv s1 ?_
  simp -dsimp -implicitDefEqProofs (disch := first | omega | (simp only [List.length_append, List.length_cons, List.length_nil, List.length_take, List.length_drop]; omega)) only [Bool.and_true, beq_self_eq_true, ↓aPre, aPost, oneW, allOne, retV, retVA, simprocAttr]
  exact post_eq rfl
theorem ifdHeads_giv (y0 : List Int) (h0 : (y0.length * 1 ≤ 140737488351232 ∧ ∀ z ∈ y0, 0 ≤ z ∧ z ≤ 255)) (y1 : (Bool) × (Bool) × (Int)) (h1 : (True ∧ True ∧ (0 ≤ y1.2.2 ∧ y1.2.2 ≤ 18446744073709551615))) : Giv Try.prog 3 [.lst 1 (li .u8 y0), .agg [.c (.bool y1.1), .c (.bool y1.2.1), .c (.int .u64 y1.2.2)]] (.d (.c (.bool true))) := by
  obtain ⟨big, wide, at_⟩ := y1
  obtain ⟨-, -, ha⟩ := h1
  have hl0 := h0.1
  dsimp only at ha
  obtain ⟨at_, rfl⟩ := Int.eq_ofNat_of_zero_le ha.1
  have hat : at_ < 18446744073709551616 := by omega
  have hB : Bytes y0 := fun z hz => by have := h0.2 z hz; omega
  refine Giv.of (out := [.c (.bool true)]) mixed c3 (Nat.le_of_ble_eq_true rfl) ?_
  simp -dsimp -implicitDefEqProofs (disch := first | omega | (simp only [List.length_append, List.length_cons, List.length_nil, List.length_take, List.length_drop]; omega)) only [a3, ↓aPre, aPost, oneW, allOne, retV, retVA, simprocAttr]
  refine call_giv lives_giv ?_
  by_cases hb : y0.length > 100
  · have hb' : (y0.length : Int) > 100 := by omega
    simp -dsimp -implicitDefEqProofs (disch := first | omega | (simp only [List.length_append, List.length_cons, List.length_nil, List.length_take, List.length_drop]; omega)) only [hb', ↓aPre, aPost, oneW, allOne, retV, retVA, simprocAttr]
    refine call_giv lives_giv ?_
    simp -dsimp -implicitDefEqProofs (disch := first | omega | (simp only [List.length_append, List.length_cons, List.length_nil, List.length_take, List.length_drop]; omega)) only [↓aPre, aPost, oneW, allOne, retV, retVA, simprocAttr]
    exact post_eq rfl
  have hb' : ¬ (y0.length : Int) > 100 := by omega
  obtain ⟨bg, wd, a, e, e1, e2, a1, a2, g1, g2⟩ := read_all y0 (by omega) hB
  rw [hD] at g1 g2
  have hsz := hsize_giv wide
  have hz := (read_short [] (by decide)).1
  by_cases ok : wide = true ∨ at_ < 4294967296
  · have w1 := whead_t big wide at_ hat ok
    have w2 := rhead_t big wide at_ hat ok
    have ag := again_t big wide at_ hat ok
    have hl := head_len big wide at_
    obtain ⟨L, hL⟩ : ∃ L, L = headL big wide at_ := ⟨_, rfl⟩
    rw [← hL] at w1 w2 ag hl
    rw [hD] at ag
    simp -dsimp -implicitDefEqProofs (disch := first | omega | (simp only [List.length_append, List.length_cons, List.length_nil, List.length_take, List.length_drop]; omega)) only [hb', ↓aPre, aPost, oneW, allOne, retV, retVA, simprocAttr]
    refine call_giv g1 ?_
    simp -dsimp -implicitDefEqProofs (disch := first | omega | (simp only [List.length_append, List.length_cons, List.length_nil, List.length_take, List.length_drop]; omega)) only [↓aPre, aPost, oneW, allOne, retV, retVA, simprocAttr]
    refine call_giv g2 ?_
    simp -dsimp -implicitDefEqProofs (disch := first | omega | (simp only [List.length_append, List.length_cons, List.length_nil, List.length_take, List.length_drop]; omega)) only [↓aPre, aPost, oneW, allOne, retV, retVA, simprocAttr]
    refine call_giv w1 ?_
    simp -dsimp -implicitDefEqProofs (disch := first | omega | (simp only [List.length_append, List.length_cons, List.length_nil, List.length_take, List.length_drop]; omega)) only [↓aPre, aPost, oneW, allOne, retV, retVA, simprocAttr]
    refine call_giv w2 ?_
    simp -dsimp -implicitDefEqProofs (disch := first | omega | (simp only [List.length_append, List.length_cons, List.length_nil, List.length_take, List.length_drop]; omega)) only [Bool.and_true, beq_self_eq_true, ibne_f, ↓aPre, aPost, oneW, allOne, retV, retVA, simprocAttr]
    refine call_giv ag ?_
    simp -dsimp -implicitDefEqProofs (disch := first | omega | (simp only [List.length_append, List.length_cons, List.length_nil, List.length_take, List.length_drop]; omega)) only [Bool.and_true, beq_self_eq_true, ibne_f, ↓aPre, aPost, oneW, allOne, retV, retVA, simprocAttr]
    refine call_giv hsz ?_
    have hlI : (L.length : Int) = if wide = true then 16 else 8 := by rw [hl]; split <;> rfl
    simp -dsimp -implicitDefEqProofs (disch := first | omega | (simp only [List.length_append, List.length_cons, List.length_nil, List.length_take, List.length_drop]; omega)) only [hlI, ibeq_t, beq_self_eq_true, ↓aPre, aPost, oneW, allOne, retV, retVA, simprocAttr]
    exact post_eq rfl
  · obtain rfl : wide = false := by
      cases wide
      · rfl
      · exact absurd (.inl rfl) ok
    have bad : ¬ at_ < 4294967296 := fun c => ok (.inr c)
    obtain ⟨r, hr⟩ : ∃ r : List Int, r = [] := ⟨_, rfl⟩
    have w1 : Giv Try.prog 10 [.agg [.c (.bool big), .c (.bool false), .c (.int .u64 at_)]] (retV [.lst 1 (li .u8 r), .c (.int .i64 11)]) := by
      rw [hr]; exact whead_e big at_ hat bad
    have w2 := rhead_e big at_ hat bad
    rw [hD, ← hr] at hz
    rw [← hr] at w2
    simp -dsimp -implicitDefEqProofs (disch := first | omega | (simp only [List.length_append, List.length_cons, List.length_nil, List.length_take, List.length_drop]; omega)) only [hb', ↓aPre, aPost, oneW, allOne, retV, retVA, simprocAttr]
    refine call_giv g1 ?_
    simp -dsimp -implicitDefEqProofs (disch := first | omega | (simp only [List.length_append, List.length_cons, List.length_nil, List.length_take, List.length_drop]; omega)) only [↓aPre, aPost, oneW, allOne, retV, retVA, simprocAttr]
    refine call_giv g2 ?_
    simp -dsimp -implicitDefEqProofs (disch := first | omega | (simp only [List.length_append, List.length_cons, List.length_nil, List.length_take, List.length_drop]; omega)) only [↓aPre, aPost, oneW, allOne, retV, retVA, simprocAttr]
    refine call_giv w1 ?_
    simp -dsimp -implicitDefEqProofs (disch := first | omega | (simp only [List.length_append, List.length_cons, List.length_nil, List.length_take, List.length_drop]; omega)) only [↓aPre, aPost, oneW, allOne, retV, retVA, simprocAttr]
    refine call_giv w2 ?_
    simp -dsimp -implicitDefEqProofs (disch := first | omega | (simp only [List.length_append, List.length_cons, List.length_nil, List.length_take, List.length_drop]; omega)) only [Bool.and_true, beq_self_eq_true, ibne_f, ↓aPre, aPost, oneW, allOne, retV, retVA, simprocAttr]
    refine call_giv hz ?_
    simp -dsimp -implicitDefEqProofs (disch := first | omega | (simp only [List.length_append, List.length_cons, List.length_nil, List.length_take, List.length_drop]; omega)) only [Bool.and_true, beq_self_eq_true, ibne_f, ↓aPre, aPost, oneW, allOne, retV, retVA, simprocAttr]
    exact post_eq rfl
end Go.Proofs.Ytkdkhngdilhneaa

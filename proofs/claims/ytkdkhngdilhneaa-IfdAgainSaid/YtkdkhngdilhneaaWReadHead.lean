/- The head of a file, read: the cases. No condition but what each says. -/
import Derived.Test.YtkdkhngdilhneaaWNum
set_option linter.unusedSimpArgs false
set_option linter.unusedVariables false
set_option maxRecDepth 8000
set_option maxHeartbeats 4000000
namespace Go.Proofs.Ytkdkhngdilhneaa
open Go.Eng Go.RowKit
def hD (big wide : Bool) (at_ : Int) : D := .agg [.c (.bool big), .c (.bool wide), .c (.int .u64 at_)]
def gk (b : List Int) (p n : Nat) (big : Bool) : Int := gvK ((b.drop p).take n) big n
theorem gk_b {b : List Int} (hB : Bytes b) (p n : Nat) (big : Bool) (hn : n ≤ 8) : 0 ≤ gk b p n big ∧ gk b p n big < 18446744073709551616 := by
  have := gvK_b ((hB.drop p).take n) big n
  have := pow256 hn
  unfold gk
  omega
theorem read_short (b : List Int) (h : b.length < 4) : Giv Try.prog 8 [.lst 1 (li .u8 b)] (retV [hD false false 0, .c (.int .i64 2)]) ∧ Giv Try.prog 9 [.c (.string (strOfNums b))] (retV [hD false false 0, .c (.int .i64 2)]) := by
  have h' : (b.length : Int) < 4 := by omega
  constructor
  · refine Giv.of mixed c8 (Nat.le_of_ble_eq_true rfl) ?_
    simp -dsimp -implicitDefEqProofs (disch := first | omega | (simp only [List.length_append, List.length_cons, List.length_nil, List.length_take, List.length_drop]; omega)) only [a8, h', ↓aPre, aPost, oneW, allOne, retV, retVA, simprocAttr]
    exact post_eq rfl
  · refine Giv.of mixed c9 (Nat.le_of_ble_eq_true rfl) ?_
    simp -dsimp -implicitDefEqProofs (disch := first | omega | (simp only [List.length_append, List.length_cons, List.length_nil, List.length_take, List.length_drop]; omega)) only [a9, h', ↓aPre, aPost, oneW, allOne, retV, retVA, simprocAttr]
    exact post_eq rfl
theorem take2 {b : List Int} (h : 4 ≤ b.length) : b.take 2 = [b.getD 0 0, b.getD 1 0] := by
  match b, h with
  | x :: y :: _ :: _ :: _, _ => rfl
theorem read_bad (b : List Int) (hl : b.length ≤ 100000) (hB : Bytes b) (h : 4 ≤ b.length) (bad : ¬ (b.getD 0 0 = b.getD 1 0 ∧ (b.getD 0 0 = 73 ∨ b.getD 0 0 = 77))) : Giv Try.prog 8 [.lst 1 (li .u8 b)] (retV [hD false false 0, .c (.int .i64 3)]) := by
  have h' : ¬ (b.length : Int) < 4 := by omega
  obtain ⟨x, hx⟩ : ∃ x, x = b.getD 0 0 := ⟨_, rfl⟩
  obtain ⟨y, hy⟩ : ∃ y, y = b.getD 1 0 := ⟨_, rfl⟩
  rw [← hx, ← hy] at bad
  refine Giv.of mixed c8 (Nat.le_of_ble_eq_true rfl) ?_
  by_cases e1 : x = y
  · have e2 : ¬ x = 73 := fun c => bad ⟨e1, .inl c⟩
    have e3 : ¬ x = 77 := fun c => bad ⟨e1, .inr c⟩
    simp -dsimp -implicitDefEqProofs (disch := first | omega | (simp only [List.length_append, List.length_cons, List.length_nil, List.length_take, List.length_drop]; omega)) only [a8, h', hx.symm, hy.symm, ibne_f e1, ibne_t e2, ibne_t e3, ↓aPre, aPost, oneW, allOne, retV, retVA, simprocAttr]
    exact post_eq rfl
  · simp -dsimp -implicitDefEqProofs (disch := first | omega | (simp only [List.length_append, List.length_cons, List.length_nil, List.length_take, List.length_drop]; omega)) only [a8, h', hx.symm, hy.symm, ibne_t e1, ↓aPre, aPost, oneW, allOne, retV, retVA, simprocAttr]
    exact post_eq rfl
theorem bytes2 {x y : Int} (hx : 0 ≤ x ∧ x < 256) (hy : 0 ≤ y ∧ y < 256) : Bytes [x, y] := fun z hz => by
  simp at hz
  rcases hz with rfl | rfl
  · exact hx
  · exact hy
theorem mag_beq {b : List Int} (hB : Bytes b) (h : 4 ≤ b.length) (v : Int) (hv : 0 ≤ v ∧ v < 256) : ((strOfNums (b.take 2)).toList == (strOfNums [v, v]).toList) = decide (b.getD 0 0 = v ∧ b.getD 1 0 = v) := by
  rw [take2 h, str_beq (bytes2 (hB.get 0) (hB.get 1)) (bytes2 hv hv)]
  simp
theorem rread_bad (b : List Int) (hl : b.length ≤ 100000) (hB : Bytes b) (h : 4 ≤ b.length) (bad : ¬ (b.getD 0 0 = b.getD 1 0 ∧ (b.getD 0 0 = 73 ∨ b.getD 0 0 = 77))) : Giv Try.prog 9 [.c (.string (strOfNums b))] (retV [hD false false 0, .c (.int .i64 3)]) := by
  have h' : ¬ (b.length : Int) < 4 := by omega
  have m1 := mag_beq hB h 73 (by decide)
  have m2 := mag_beq hB h 77 (by decide)
  rw [decide_eq_false (fun c => bad ⟨by rw [c.1, c.2], .inl c.1⟩)] at m1
  rw [decide_eq_false (fun c => bad ⟨by rw [c.1, c.2], .inr c.1⟩)] at m2
  refine Giv.of mixed c9 (Nat.le_of_ble_eq_true rfl) ?_
  simp -dsimp -implicitDefEqProofs (disch := first | omega | (simp only [List.length_append, List.length_cons, List.length_nil, List.length_take, List.length_drop]; omega)) only [a9, h', m1, m2, ↓aPre, aPost, oneW, allOne, retV, retVA, simprocAttr]
  exact post_eq rfl
/-- the two marks that are right -/
def mg (big : Bool) : Int := if big = true then 77 else 73
theorem get_k (b : List Int) (p n : Nat) (big : Bool) (hn : sizedP (n : Int)) (hl : b.length ≤ 100000) (hB : Bytes b) (h : p + n ≤ b.length) : Giv Try.prog 25 [.lst 1 (li .u8 b), .c (.int .u64 p), .c (.int .i64 n), .c (.bool big)] (retV [.c (.int .u64 (gk b p n big)), .c (.int .i64 0)]) := by
  have := get_t b p n big hn (by omega) hB (by rw [Int.toNat_natCast]; exact h)
  rw [Int.toNat_natCast] at this
  exact this
theorem read_id (b : List Int) (big : Bool) (hl : b.length ≤ 100000) (hB : Bytes b) (h : 4 ≤ b.length) (h0 : b.getD 0 0 = mg big) (h1 : b.getD 1 0 = mg big) (bad : gk b 2 2 big ≠ 42 ∧ gk b 2 2 big ≠ 43) : Giv Try.prog 8 [.lst 1 (li .u8 b)] (retV [hD false false 0, .c (.int .i64 3)]) := by
  have h' : ¬ (b.length : Int) < 4 := by omega
  have g := get_k b 2 2 big (.inr (.inl rfl)) hl hB (by omega)
  have hb := gk_b hB 2 2 big (by decide)
  obtain ⟨v, hv⟩ : ∃ v, v = gk b 2 2 big := ⟨_, rfl⟩
  rw [← hv] at g bad hb
  have n42 := bad.1
  have n43 := bad.2
  refine Giv.of mixed c8 (Nat.le_of_ble_eq_true rfl) ?_
  cases big
  · have e0 : b.getD 0 0 = 73 := h0
    have e1 : b.getD 1 0 = 73 := h1
    simp -dsimp -implicitDefEqProofs (disch := first | omega | (simp only [List.length_append, List.length_cons, List.length_nil, List.length_take, List.length_drop]; omega)) only [a8, h', e0, e1, ↓aPre, aPost, oneW, allOne, retV, retVA, simprocAttr]
    refine call_giv g ?_
    simp -dsimp -implicitDefEqProofs (disch := first | omega | (simp only [List.length_append, List.length_cons, List.length_nil, List.length_take, List.length_drop]; omega)) only [ibne_t n42, ibne_t n43, ↓aPre, aPost, oneW, allOne, retV, retVA, simprocAttr]
    exact post_eq rfl
  · have e0 : b.getD 0 0 = 77 := h0
    have e1 : b.getD 1 0 = 77 := h1
    simp -dsimp -implicitDefEqProofs (disch := first | omega | (simp only [List.length_append, List.length_cons, List.length_nil, List.length_take, List.length_drop]; omega)) only [a8, h', e0, e1, ↓aPre, aPost, oneW, allOne, retV, retVA, simprocAttr]
    refine call_giv g ?_
    simp -dsimp -implicitDefEqProofs (disch := first | omega | (simp only [List.length_append, List.length_cons, List.length_nil, List.length_take, List.length_drop]; omega)) only [ibne_t n42, ibne_t n43, ↓aPre, aPost, oneW, allOne, retV, retVA, simprocAttr]
    exact post_eq rfl
theorem read_n_t (b : List Int) (big : Bool) (hl : b.length ≤ 100000) (hB : Bytes b) (h : 8 ≤ b.length) (h0 : b.getD 0 0 = mg big) (h1 : b.getD 1 0 = mg big) (id : gk b 2 2 big = 42) : Giv Try.prog 8 [.lst 1 (li .u8 b)] (retV [hD big false (gk b 4 4 big), .c (.int .i64 0)]) := by
  have h' : ¬ (b.length : Int) < 4 := by omega
  have g := get_k b 2 2 big (.inr (.inl rfl)) hl hB (by omega)
  have g4 := get_k b 4 4 big (.inr (.inr (.inl rfl))) hl hB (by omega)
  have hb := gk_b hB 4 4 big (by decide)
  obtain ⟨v, hv⟩ : ∃ v, v = gk b 4 4 big := ⟨_, rfl⟩
  rw [← hv] at g4 hb ⊢
  rw [id] at g
  have hz := sizes_giv false
  have hs := hsize_giv false
  refine Giv.of mixed c8 (Nat.le_of_ble_eq_true rfl) ?_
  cases big
  · have e0 : b.getD 0 0 = 73 := h0
    have e1 : b.getD 1 0 = 73 := h1
    simp -dsimp -implicitDefEqProofs (disch := first | omega | (simp only [List.length_append, List.length_cons, List.length_nil, List.length_take, List.length_drop]; omega)) only [a8, h', e0, e1, ↓aPre, aPost, oneW, allOne, retV, retVA, simprocAttr]
    refine call_giv g ?_
    simp -dsimp -implicitDefEqProofs (disch := first | omega | (simp only [List.length_append, List.length_cons, List.length_nil, List.length_take, List.length_drop]; omega)) only [↓aPre, aPost, oneW, allOne, retV, retVA, simprocAttr]
    refine call_giv hz ?_
    simp -dsimp -implicitDefEqProofs (disch := first | omega | (simp only [List.length_append, List.length_cons, List.length_nil, List.length_take, List.length_drop]; omega)) only [↓aPre, aPost, oneW, allOne, retV, retVA, simprocAttr]
    refine call_giv hs ?_
    simp -dsimp -implicitDefEqProofs (disch := first | omega | (simp only [List.length_append, List.length_cons, List.length_nil, List.length_take, List.length_drop]; omega)) only [↓aPre, aPost, oneW, allOne, retV, retVA, simprocAttr]
    refine call_giv g4 ?_
    simp -dsimp -implicitDefEqProofs (disch := first | omega | (simp only [List.length_append, List.length_cons, List.length_nil, List.length_take, List.length_drop]; omega)) only [↓aPre, aPost, oneW, allOne, retV, retVA, simprocAttr]
    exact post_eq rfl
  · have e0 : b.getD 0 0 = 77 := h0
    have e1 : b.getD 1 0 = 77 := h1
    simp -dsimp -implicitDefEqProofs (disch := first | omega | (simp only [List.length_append, List.length_cons, List.length_nil, List.length_take, List.length_drop]; omega)) only [a8, h', e0, e1, ↓aPre, aPost, oneW, allOne, retV, retVA, simprocAttr]
    refine call_giv g ?_
    simp -dsimp -implicitDefEqProofs (disch := first | omega | (simp only [List.length_append, List.length_cons, List.length_nil, List.length_take, List.length_drop]; omega)) only [↓aPre, aPost, oneW, allOne, retV, retVA, simprocAttr]
    refine call_giv hz ?_
    simp -dsimp -implicitDefEqProofs (disch := first | omega | (simp only [List.length_append, List.length_cons, List.length_nil, List.length_take, List.length_drop]; omega)) only [↓aPre, aPost, oneW, allOne, retV, retVA, simprocAttr]
    refine call_giv hs ?_
    simp -dsimp -implicitDefEqProofs (disch := first | omega | (simp only [List.length_append, List.length_cons, List.length_nil, List.length_take, List.length_drop]; omega)) only [↓aPre, aPost, oneW, allOne, retV, retVA, simprocAttr]
    refine call_giv g4 ?_
    simp -dsimp -implicitDefEqProofs (disch := first | omega | (simp only [List.length_append, List.length_cons, List.length_nil, List.length_take, List.length_drop]; omega)) only [↓aPre, aPost, oneW, allOne, retV, retVA, simprocAttr]
    exact post_eq rfl
theorem read_n_e (b : List Int) (big : Bool) (hl : b.length ≤ 100000) (hB : Bytes b) (h : 4 ≤ b.length) (h0 : b.getD 0 0 = mg big) (h1 : b.getD 1 0 = mg big) (id : gk b 2 2 big = 42) (hs8 : b.length < 8) : Giv Try.prog 8 [.lst 1 (li .u8 b)] (retV [hD false false 0, .c (.int .i64 2)]) := by
  have h' : ¬ (b.length : Int) < 4 := by omega
  have g := get_k b 2 2 big (.inr (.inl rfl)) hl hB (by omega)
  rw [id] at g
  have hz := sizes_giv false
  have hs := hsize_giv false
  have gf := get_f b 4 4 big (.inr (.inr (.inl rfl))) (by omega) (by omega) (by decide)
  refine Giv.of mixed c8 (Nat.le_of_ble_eq_true rfl) ?_
  cases big
  · have e0 : b.getD 0 0 = 73 := h0
    have e1 : b.getD 1 0 = 73 := h1
    simp -dsimp -implicitDefEqProofs (disch := first | omega | (simp only [List.length_append, List.length_cons, List.length_nil, List.length_take, List.length_drop]; omega)) only [a8, h', e0, e1, ↓aPre, aPost, oneW, allOne, retV, retVA, simprocAttr]
    refine call_giv g ?_
    simp -dsimp -implicitDefEqProofs (disch := first | omega | (simp only [List.length_append, List.length_cons, List.length_nil, List.length_take, List.length_drop]; omega)) only [↓aPre, aPost, oneW, allOne, retV, retVA, simprocAttr]
    refine call_giv hz ?_
    simp -dsimp -implicitDefEqProofs (disch := first | omega | (simp only [List.length_append, List.length_cons, List.length_nil, List.length_take, List.length_drop]; omega)) only [↓aPre, aPost, oneW, allOne, retV, retVA, simprocAttr]
    refine call_giv hs ?_
    simp -dsimp -implicitDefEqProofs (disch := first | omega | (simp only [List.length_append, List.length_cons, List.length_nil, List.length_take, List.length_drop]; omega)) only [↓aPre, aPost, oneW, allOne, retV, retVA, simprocAttr]
    refine call_giv gf ?_
    simp -dsimp -implicitDefEqProofs (disch := first | omega | (simp only [List.length_append, List.length_cons, List.length_nil, List.length_take, List.length_drop]; omega)) only [↓aPre, aPost, oneW, allOne, retV, retVA, simprocAttr]
    exact post_eq rfl
  · have e0 : b.getD 0 0 = 77 := h0
    have e1 : b.getD 1 0 = 77 := h1
    simp -dsimp -implicitDefEqProofs (disch := first | omega | (simp only [List.length_append, List.length_cons, List.length_nil, List.length_take, List.length_drop]; omega)) only [a8, h', e0, e1, ↓aPre, aPost, oneW, allOne, retV, retVA, simprocAttr]
    refine call_giv g ?_
    simp -dsimp -implicitDefEqProofs (disch := first | omega | (simp only [List.length_append, List.length_cons, List.length_nil, List.length_take, List.length_drop]; omega)) only [↓aPre, aPost, oneW, allOne, retV, retVA, simprocAttr]
    refine call_giv hz ?_
    simp -dsimp -implicitDefEqProofs (disch := first | omega | (simp only [List.length_append, List.length_cons, List.length_nil, List.length_take, List.length_drop]; omega)) only [↓aPre, aPost, oneW, allOne, retV, retVA, simprocAttr]
    refine call_giv hs ?_
    simp -dsimp -implicitDefEqProofs (disch := first | omega | (simp only [List.length_append, List.length_cons, List.length_nil, List.length_take, List.length_drop]; omega)) only [↓aPre, aPost, oneW, allOne, retV, retVA, simprocAttr]
    refine call_giv gf ?_
    simp -dsimp -implicitDefEqProofs (disch := first | omega | (simp only [List.length_append, List.length_cons, List.length_nil, List.length_take, List.length_drop]; omega)) only [↓aPre, aPost, oneW, allOne, retV, retVA, simprocAttr]
    exact post_eq rfl
theorem read_w_s1 (b : List Int) (big : Bool) (hl : b.length ≤ 100000) (hB : Bytes b) (h : 4 ≤ b.length) (h0 : b.getD 0 0 = mg big) (h1 : b.getD 1 0 = mg big) (id : gk b 2 2 big = 43) (hs8 : b.length < 6) : Giv Try.prog 8 [.lst 1 (li .u8 b)] (retV [hD false false 0, .c (.int .i64 2)]) := by
  have h' : ¬ (b.length : Int) < 4 := by omega
  have g := get_k b 2 2 big (.inr (.inl rfl)) hl hB (by omega)
  rw [id] at g
  have hz := sizes_giv true
  have hs := hsize_giv true
  have gf := get_f b 4 2 big (.inr (.inl rfl)) (by omega) (by omega) (by decide)
  have gf2 := get_f b 6 2 big (.inr (.inl rfl)) (by omega) (by omega) (by decide)
  refine Giv.of mixed c8 (Nat.le_of_ble_eq_true rfl) ?_
  cases big
  · have e0 : b.getD 0 0 = 73 := h0
    have e1 : b.getD 1 0 = 73 := h1
    simp -dsimp -implicitDefEqProofs (disch := first | omega | (simp only [List.length_append, List.length_cons, List.length_nil, List.length_take, List.length_drop]; omega)) only [a8, h', e0, e1, ↓aPre, aPost, oneW, allOne, retV, retVA, simprocAttr]
    refine call_giv g ?_
    simp -dsimp -implicitDefEqProofs (disch := first | omega | (simp only [List.length_append, List.length_cons, List.length_nil, List.length_take, List.length_drop]; omega)) only [↓aPre, aPost, oneW, allOne, retV, retVA, simprocAttr]
    refine call_giv hz ?_
    simp -dsimp -implicitDefEqProofs (disch := first | omega | (simp only [List.length_append, List.length_cons, List.length_nil, List.length_take, List.length_drop]; omega)) only [↓aPre, aPost, oneW, allOne, retV, retVA, simprocAttr]
    refine call_giv gf ?_
    simp -dsimp -implicitDefEqProofs (disch := first | omega | (simp only [List.length_append, List.length_cons, List.length_nil, List.length_take, List.length_drop]; omega)) only [↓aPre, aPost, oneW, allOne, retV, retVA, simprocAttr]
    refine call_giv gf2 ?_
    simp -dsimp -implicitDefEqProofs (disch := first | omega | (simp only [List.length_append, List.length_cons, List.length_nil, List.length_take, List.length_drop]; omega)) only [↓aPre, aPost, oneW, allOne, retV, retVA, simprocAttr]
    exact post_eq rfl
  · have e0 : b.getD 0 0 = 77 := h0
    have e1 : b.getD 1 0 = 77 := h1
    simp -dsimp -implicitDefEqProofs (disch := first | omega | (simp only [List.length_append, List.length_cons, List.length_nil, List.length_take, List.length_drop]; omega)) only [a8, h', e0, e1, ↓aPre, aPost, oneW, allOne, retV, retVA, simprocAttr]
    refine call_giv g ?_
    simp -dsimp -implicitDefEqProofs (disch := first | omega | (simp only [List.length_append, List.length_cons, List.length_nil, List.length_take, List.length_drop]; omega)) only [↓aPre, aPost, oneW, allOne, retV, retVA, simprocAttr]
    refine call_giv hz ?_
    simp -dsimp -implicitDefEqProofs (disch := first | omega | (simp only [List.length_append, List.length_cons, List.length_nil, List.length_take, List.length_drop]; omega)) only [↓aPre, aPost, oneW, allOne, retV, retVA, simprocAttr]
    refine call_giv gf ?_
    simp -dsimp -implicitDefEqProofs (disch := first | omega | (simp only [List.length_append, List.length_cons, List.length_nil, List.length_take, List.length_drop]; omega)) only [↓aPre, aPost, oneW, allOne, retV, retVA, simprocAttr]
    refine call_giv gf2 ?_
    simp -dsimp -implicitDefEqProofs (disch := first | omega | (simp only [List.length_append, List.length_cons, List.length_nil, List.length_take, List.length_drop]; omega)) only [↓aPre, aPost, oneW, allOne, retV, retVA, simprocAttr]
    exact post_eq rfl
theorem read_w_s2 (b : List Int) (big : Bool) (hl : b.length ≤ 100000) (hB : Bytes b) (h : 4 ≤ b.length) (h0 : b.getD 0 0 = mg big) (h1 : b.getD 1 0 = mg big) (id : gk b 2 2 big = 43) (hs6 : 6 ≤ b.length) (hs8 : b.length < 8) : Giv Try.prog 8 [.lst 1 (li .u8 b)] (retV [hD false false 0, .c (.int .i64 2)]) := by
  have h' : ¬ (b.length : Int) < 4 := by omega
  have g := get_k b 2 2 big (.inr (.inl rfl)) hl hB (by omega)
  rw [id] at g
  have hz := sizes_giv true
  have hs := hsize_giv true
  have g42 := get_k b 4 2 big (.inr (.inl rfl)) hl hB (by omega)
  have gf2 := get_f b 6 2 big (.inr (.inl rfl)) (by omega) (by omega) (by decide)
  have b42 := gk_b hB 4 2 big (by decide)
  obtain ⟨u, hu⟩ : ∃ u, u = gk b 4 2 big := ⟨_, rfl⟩
  rw [← hu] at g42 b42
  refine Giv.of mixed c8 (Nat.le_of_ble_eq_true rfl) ?_
  cases big
  · have e0 : b.getD 0 0 = 73 := h0
    have e1 : b.getD 1 0 = 73 := h1
    simp -dsimp -implicitDefEqProofs (disch := first | omega | (simp only [List.length_append, List.length_cons, List.length_nil, List.length_take, List.length_drop]; omega)) only [a8, h', e0, e1, ↓aPre, aPost, oneW, allOne, retV, retVA, simprocAttr]
    refine call_giv g ?_
    simp -dsimp -implicitDefEqProofs (disch := first | omega | (simp only [List.length_append, List.length_cons, List.length_nil, List.length_take, List.length_drop]; omega)) only [↓aPre, aPost, oneW, allOne, retV, retVA, simprocAttr]
    refine call_giv hz ?_
    simp -dsimp -implicitDefEqProofs (disch := first | omega | (simp only [List.length_append, List.length_cons, List.length_nil, List.length_take, List.length_drop]; omega)) only [↓aPre, aPost, oneW, allOne, retV, retVA, simprocAttr]
    refine call_giv g42 ?_
    simp -dsimp -implicitDefEqProofs (disch := first | omega | (simp only [List.length_append, List.length_cons, List.length_nil, List.length_take, List.length_drop]; omega)) only [↓aPre, aPost, oneW, allOne, retV, retVA, simprocAttr]
    refine call_giv gf2 ?_
    simp -dsimp -implicitDefEqProofs (disch := first | omega | (simp only [List.length_append, List.length_cons, List.length_nil, List.length_take, List.length_drop]; omega)) only [↓aPre, aPost, oneW, allOne, retV, retVA, simprocAttr]
    exact post_eq rfl
  · have e0 : b.getD 0 0 = 77 := h0
    have e1 : b.getD 1 0 = 77 := h1
    simp -dsimp -implicitDefEqProofs (disch := first | omega | (simp only [List.length_append, List.length_cons, List.length_nil, List.length_take, List.length_drop]; omega)) only [a8, h', e0, e1, ↓aPre, aPost, oneW, allOne, retV, retVA, simprocAttr]
    refine call_giv g ?_
    simp -dsimp -implicitDefEqProofs (disch := first | omega | (simp only [List.length_append, List.length_cons, List.length_nil, List.length_take, List.length_drop]; omega)) only [↓aPre, aPost, oneW, allOne, retV, retVA, simprocAttr]
    refine call_giv hz ?_
    simp -dsimp -implicitDefEqProofs (disch := first | omega | (simp only [List.length_append, List.length_cons, List.length_nil, List.length_take, List.length_drop]; omega)) only [↓aPre, aPost, oneW, allOne, retV, retVA, simprocAttr]
    refine call_giv g42 ?_
    simp -dsimp -implicitDefEqProofs (disch := first | omega | (simp only [List.length_append, List.length_cons, List.length_nil, List.length_take, List.length_drop]; omega)) only [↓aPre, aPost, oneW, allOne, retV, retVA, simprocAttr]
    refine call_giv gf2 ?_
    simp -dsimp -implicitDefEqProofs (disch := first | omega | (simp only [List.length_append, List.length_cons, List.length_nil, List.length_take, List.length_drop]; omega)) only [↓aPre, aPost, oneW, allOne, retV, retVA, simprocAttr]
    exact post_eq rfl
theorem read_w_b1 (b : List Int) (big : Bool) (hl : b.length ≤ 100000) (hB : Bytes b) (h : 4 ≤ b.length) (h0 : b.getD 0 0 = mg big) (h1 : b.getD 1 0 = mg big) (id : gk b 2 2 big = 43) (hs8 : 8 ≤ b.length) (bad : gk b 4 2 big ≠ 8) : Giv Try.prog 8 [.lst 1 (li .u8 b)] (retV [hD false false 0, .c (.int .i64 3)]) := by
  have h' : ¬ (b.length : Int) < 4 := by omega
  have g := get_k b 2 2 big (.inr (.inl rfl)) hl hB (by omega)
  rw [id] at g
  have hz := sizes_giv true
  have hs := hsize_giv true
  have g42 := get_k b 4 2 big (.inr (.inl rfl)) hl hB (by omega)
  have g62 := get_k b 6 2 big (.inr (.inl rfl)) hl hB (by omega)
  have b42 := gk_b hB 4 2 big (by decide)
  have b62 := gk_b hB 6 2 big (by decide)
  obtain ⟨u, hu⟩ : ∃ u, u = gk b 4 2 big := ⟨_, rfl⟩
  obtain ⟨v, hv⟩ : ∃ v, v = gk b 6 2 big := ⟨_, rfl⟩
  rw [← hu] at g42 b42
  rw [← hv] at g62 b62
  rw [← hu] at bad
  refine Giv.of mixed c8 (Nat.le_of_ble_eq_true rfl) ?_
  cases big
  · have e0 : b.getD 0 0 = 73 := h0
    have e1 : b.getD 1 0 = 73 := h1
    simp -dsimp -implicitDefEqProofs (disch := first | omega | (simp only [List.length_append, List.length_cons, List.length_nil, List.length_take, List.length_drop]; omega)) only [a8, h', e0, e1, ↓aPre, aPost, oneW, allOne, retV, retVA, simprocAttr]
    refine call_giv g ?_
    simp -dsimp -implicitDefEqProofs (disch := first | omega | (simp only [List.length_append, List.length_cons, List.length_nil, List.length_take, List.length_drop]; omega)) only [↓aPre, aPost, oneW, allOne, retV, retVA, simprocAttr]
    refine call_giv hz ?_
    simp -dsimp -implicitDefEqProofs (disch := first | omega | (simp only [List.length_append, List.length_cons, List.length_nil, List.length_take, List.length_drop]; omega)) only [↓aPre, aPost, oneW, allOne, retV, retVA, simprocAttr]
    refine call_giv g42 ?_
    simp -dsimp -implicitDefEqProofs (disch := first | omega | (simp only [List.length_append, List.length_cons, List.length_nil, List.length_take, List.length_drop]; omega)) only [↓aPre, aPost, oneW, allOne, retV, retVA, simprocAttr]
    refine call_giv g62 ?_
    simp -dsimp -implicitDefEqProofs (disch := first | omega | (simp only [List.length_append, List.length_cons, List.length_nil, List.length_take, List.length_drop]; omega)) only [ibne_t bad, ↓aPre, aPost, oneW, allOne, retV, retVA, simprocAttr]
    exact post_eq rfl
  · have e0 : b.getD 0 0 = 77 := h0
    have e1 : b.getD 1 0 = 77 := h1
    simp -dsimp -implicitDefEqProofs (disch := first | omega | (simp only [List.length_append, List.length_cons, List.length_nil, List.length_take, List.length_drop]; omega)) only [a8, h', e0, e1, ↓aPre, aPost, oneW, allOne, retV, retVA, simprocAttr]
    refine call_giv g ?_
    simp -dsimp -implicitDefEqProofs (disch := first | omega | (simp only [List.length_append, List.length_cons, List.length_nil, List.length_take, List.length_drop]; omega)) only [↓aPre, aPost, oneW, allOne, retV, retVA, simprocAttr]
    refine call_giv hz ?_
    simp -dsimp -implicitDefEqProofs (disch := first | omega | (simp only [List.length_append, List.length_cons, List.length_nil, List.length_take, List.length_drop]; omega)) only [↓aPre, aPost, oneW, allOne, retV, retVA, simprocAttr]
    refine call_giv g42 ?_
    simp -dsimp -implicitDefEqProofs (disch := first | omega | (simp only [List.length_append, List.length_cons, List.length_nil, List.length_take, List.length_drop]; omega)) only [↓aPre, aPost, oneW, allOne, retV, retVA, simprocAttr]
    refine call_giv g62 ?_
    simp -dsimp -implicitDefEqProofs (disch := first | omega | (simp only [List.length_append, List.length_cons, List.length_nil, List.length_take, List.length_drop]; omega)) only [ibne_t bad, ↓aPre, aPost, oneW, allOne, retV, retVA, simprocAttr]
    exact post_eq rfl
theorem read_w_b2 (b : List Int) (big : Bool) (hl : b.length ≤ 100000) (hB : Bytes b) (h : 4 ≤ b.length) (h0 : b.getD 0 0 = mg big) (h1 : b.getD 1 0 = mg big) (id : gk b 2 2 big = 43) (hs8 : 8 ≤ b.length) (ok : gk b 4 2 big = 8) (bad : gk b 6 2 big ≠ 0) : Giv Try.prog 8 [.lst 1 (li .u8 b)] (retV [hD false false 0, .c (.int .i64 3)]) := by
  have h' : ¬ (b.length : Int) < 4 := by omega
  have g := get_k b 2 2 big (.inr (.inl rfl)) hl hB (by omega)
  rw [id] at g
  have hz := sizes_giv true
  have hs := hsize_giv true
  have g42 := get_k b 4 2 big (.inr (.inl rfl)) hl hB (by omega)
  have g62 := get_k b 6 2 big (.inr (.inl rfl)) hl hB (by omega)
  have b42 := gk_b hB 4 2 big (by decide)
  have b62 := gk_b hB 6 2 big (by decide)
  obtain ⟨u, hu⟩ : ∃ u, u = gk b 4 2 big := ⟨_, rfl⟩
  obtain ⟨v, hv⟩ : ∃ v, v = gk b 6 2 big := ⟨_, rfl⟩
  rw [← hu] at g42 b42
  rw [← hv] at g62 b62
  rw [← hu] at ok
  subst ok
  rw [← hv] at bad
  refine Giv.of mixed c8 (Nat.le_of_ble_eq_true rfl) ?_
  cases big
  · have e0 : b.getD 0 0 = 73 := h0
    have e1 : b.getD 1 0 = 73 := h1
    simp -dsimp -implicitDefEqProofs (disch := first | omega | (simp only [List.length_append, List.length_cons, List.length_nil, List.length_take, List.length_drop]; omega)) only [a8, h', e0, e1, ↓aPre, aPost, oneW, allOne, retV, retVA, simprocAttr]
    refine call_giv g ?_
    simp -dsimp -implicitDefEqProofs (disch := first | omega | (simp only [List.length_append, List.length_cons, List.length_nil, List.length_take, List.length_drop]; omega)) only [↓aPre, aPost, oneW, allOne, retV, retVA, simprocAttr]
    refine call_giv hz ?_
    simp -dsimp -implicitDefEqProofs (disch := first | omega | (simp only [List.length_append, List.length_cons, List.length_nil, List.length_take, List.length_drop]; omega)) only [↓aPre, aPost, oneW, allOne, retV, retVA, simprocAttr]
    refine call_giv g42 ?_
    simp -dsimp -implicitDefEqProofs (disch := first | omega | (simp only [List.length_append, List.length_cons, List.length_nil, List.length_take, List.length_drop]; omega)) only [↓aPre, aPost, oneW, allOne, retV, retVA, simprocAttr]
    refine call_giv g62 ?_
    simp -dsimp -implicitDefEqProofs (disch := first | omega | (simp only [List.length_append, List.length_cons, List.length_nil, List.length_take, List.length_drop]; omega)) only [ibne_t bad, ↓aPre, aPost, oneW, allOne, retV, retVA, simprocAttr]
    exact post_eq rfl
  · have e0 : b.getD 0 0 = 77 := h0
    have e1 : b.getD 1 0 = 77 := h1
    simp -dsimp -implicitDefEqProofs (disch := first | omega | (simp only [List.length_append, List.length_cons, List.length_nil, List.length_take, List.length_drop]; omega)) only [a8, h', e0, e1, ↓aPre, aPost, oneW, allOne, retV, retVA, simprocAttr]
    refine call_giv g ?_
    simp -dsimp -implicitDefEqProofs (disch := first | omega | (simp only [List.length_append, List.length_cons, List.length_nil, List.length_take, List.length_drop]; omega)) only [↓aPre, aPost, oneW, allOne, retV, retVA, simprocAttr]
    refine call_giv hz ?_
    simp -dsimp -implicitDefEqProofs (disch := first | omega | (simp only [List.length_append, List.length_cons, List.length_nil, List.length_take, List.length_drop]; omega)) only [↓aPre, aPost, oneW, allOne, retV, retVA, simprocAttr]
    refine call_giv g42 ?_
    simp -dsimp -implicitDefEqProofs (disch := first | omega | (simp only [List.length_append, List.length_cons, List.length_nil, List.length_take, List.length_drop]; omega)) only [↓aPre, aPost, oneW, allOne, retV, retVA, simprocAttr]
    refine call_giv g62 ?_
    simp -dsimp -implicitDefEqProofs (disch := first | omega | (simp only [List.length_append, List.length_cons, List.length_nil, List.length_take, List.length_drop]; omega)) only [ibne_t bad, ↓aPre, aPost, oneW, allOne, retV, retVA, simprocAttr]
    exact post_eq rfl
theorem read_w_e (b : List Int) (big : Bool) (hl : b.length ≤ 100000) (hB : Bytes b) (h : 4 ≤ b.length) (h0 : b.getD 0 0 = mg big) (h1 : b.getD 1 0 = mg big) (id : gk b 2 2 big = 43) (hs8 : 8 ≤ b.length) (hs16 : b.length < 16) (ok : gk b 4 2 big = 8) (ok2 : gk b 6 2 big = 0) : Giv Try.prog 8 [.lst 1 (li .u8 b)] (retV [hD false false 0, .c (.int .i64 2)]) := by
  have h' : ¬ (b.length : Int) < 4 := by omega
  have g := get_k b 2 2 big (.inr (.inl rfl)) hl hB (by omega)
  rw [id] at g
  have hz := sizes_giv true
  have hs := hsize_giv true
  have g42 := get_k b 4 2 big (.inr (.inl rfl)) hl hB (by omega)
  have g62 := get_k b 6 2 big (.inr (.inl rfl)) hl hB (by omega)
  rw [ok] at g42
  rw [ok2] at g62
  have gf := get_f b 8 8 big (.inr (.inr (.inr rfl))) (by omega) (by omega) (by decide)
  refine Giv.of mixed c8 (Nat.le_of_ble_eq_true rfl) ?_
  cases big
  · have e0 : b.getD 0 0 = 73 := h0
    have e1 : b.getD 1 0 = 73 := h1
    simp -dsimp -implicitDefEqProofs (disch := first | omega | (simp only [List.length_append, List.length_cons, List.length_nil, List.length_take, List.length_drop]; omega)) only [a8, h', e0, e1, ↓aPre, aPost, oneW, allOne, retV, retVA, simprocAttr]
    refine call_giv g ?_
    simp -dsimp -implicitDefEqProofs (disch := first | omega | (simp only [List.length_append, List.length_cons, List.length_nil, List.length_take, List.length_drop]; omega)) only [↓aPre, aPost, oneW, allOne, retV, retVA, simprocAttr]
    refine call_giv hz ?_
    simp -dsimp -implicitDefEqProofs (disch := first | omega | (simp only [List.length_append, List.length_cons, List.length_nil, List.length_take, List.length_drop]; omega)) only [↓aPre, aPost, oneW, allOne, retV, retVA, simprocAttr]
    refine call_giv g42 ?_
    simp -dsimp -implicitDefEqProofs (disch := first | omega | (simp only [List.length_append, List.length_cons, List.length_nil, List.length_take, List.length_drop]; omega)) only [↓aPre, aPost, oneW, allOne, retV, retVA, simprocAttr]
    refine call_giv g62 ?_
    simp -dsimp -implicitDefEqProofs (disch := first | omega | (simp only [List.length_append, List.length_cons, List.length_nil, List.length_take, List.length_drop]; omega)) only [↓aPre, aPost, oneW, allOne, retV, retVA, simprocAttr]
    refine call_giv hs ?_
    simp -dsimp -implicitDefEqProofs (disch := first | omega | (simp only [List.length_append, List.length_cons, List.length_nil, List.length_take, List.length_drop]; omega)) only [↓aPre, aPost, oneW, allOne, retV, retVA, simprocAttr]
    refine call_giv gf ?_
    simp -dsimp -implicitDefEqProofs (disch := first | omega | (simp only [List.length_append, List.length_cons, List.length_nil, List.length_take, List.length_drop]; omega)) only [↓aPre, aPost, oneW, allOne, retV, retVA, simprocAttr]
    exact post_eq rfl
  · have e0 : b.getD 0 0 = 77 := h0
    have e1 : b.getD 1 0 = 77 := h1
    simp -dsimp -implicitDefEqProofs (disch := first | omega | (simp only [List.length_append, List.length_cons, List.length_nil, List.length_take, List.length_drop]; omega)) only [a8, h', e0, e1, ↓aPre, aPost, oneW, allOne, retV, retVA, simprocAttr]
    refine call_giv g ?_
    simp -dsimp -implicitDefEqProofs (disch := first | omega | (simp only [List.length_append, List.length_cons, List.length_nil, List.length_take, List.length_drop]; omega)) only [↓aPre, aPost, oneW, allOne, retV, retVA, simprocAttr]
    refine call_giv hz ?_
    simp -dsimp -implicitDefEqProofs (disch := first | omega | (simp only [List.length_append, List.length_cons, List.length_nil, List.length_take, List.length_drop]; omega)) only [↓aPre, aPost, oneW, allOne, retV, retVA, simprocAttr]
    refine call_giv g42 ?_
    simp -dsimp -implicitDefEqProofs (disch := first | omega | (simp only [List.length_append, List.length_cons, List.length_nil, List.length_take, List.length_drop]; omega)) only [↓aPre, aPost, oneW, allOne, retV, retVA, simprocAttr]
    refine call_giv g62 ?_
    simp -dsimp -implicitDefEqProofs (disch := first | omega | (simp only [List.length_append, List.length_cons, List.length_nil, List.length_take, List.length_drop]; omega)) only [↓aPre, aPost, oneW, allOne, retV, retVA, simprocAttr]
    refine call_giv hs ?_
    simp -dsimp -implicitDefEqProofs (disch := first | omega | (simp only [List.length_append, List.length_cons, List.length_nil, List.length_take, List.length_drop]; omega)) only [↓aPre, aPost, oneW, allOne, retV, retVA, simprocAttr]
    refine call_giv gf ?_
    simp -dsimp -implicitDefEqProofs (disch := first | omega | (simp only [List.length_append, List.length_cons, List.length_nil, List.length_take, List.length_drop]; omega)) only [↓aPre, aPost, oneW, allOne, retV, retVA, simprocAttr]
    exact post_eq rfl
theorem read_w_t (b : List Int) (big : Bool) (hl : b.length ≤ 100000) (hB : Bytes b) (h : 4 ≤ b.length) (h0 : b.getD 0 0 = mg big) (h1 : b.getD 1 0 = mg big) (id : gk b 2 2 big = 43) (hs16 : 16 ≤ b.length) (ok : gk b 4 2 big = 8) (ok2 : gk b 6 2 big = 0) : Giv Try.prog 8 [.lst 1 (li .u8 b)] (retV [hD big true (gk b 8 8 big), .c (.int .i64 0)]) := by
  have h' : ¬ (b.length : Int) < 4 := by omega
  have g := get_k b 2 2 big (.inr (.inl rfl)) hl hB (by omega)
  rw [id] at g
  have hz := sizes_giv true
  have hs := hsize_giv true
  have g42 := get_k b 4 2 big (.inr (.inl rfl)) hl hB (by omega)
  have g62 := get_k b 6 2 big (.inr (.inl rfl)) hl hB (by omega)
  rw [ok] at g42
  rw [ok2] at g62
  have g8 := get_k b 8 8 big (.inr (.inr (.inr rfl))) hl hB (by omega)
  have hb := gk_b hB 8 8 big (by decide)
  obtain ⟨v, hv⟩ : ∃ v, v = gk b 8 8 big := ⟨_, rfl⟩
  rw [← hv] at g8 hb ⊢
  refine Giv.of mixed c8 (Nat.le_of_ble_eq_true rfl) ?_
  cases big
  · have e0 : b.getD 0 0 = 73 := h0
    have e1 : b.getD 1 0 = 73 := h1
    simp -dsimp -implicitDefEqProofs (disch := first | omega | (simp only [List.length_append, List.length_cons, List.length_nil, List.length_take, List.length_drop]; omega)) only [a8, h', e0, e1, ↓aPre, aPost, oneW, allOne, retV, retVA, simprocAttr]
    refine call_giv g ?_
    simp -dsimp -implicitDefEqProofs (disch := first | omega | (simp only [List.length_append, List.length_cons, List.length_nil, List.length_take, List.length_drop]; omega)) only [↓aPre, aPost, oneW, allOne, retV, retVA, simprocAttr]
    refine call_giv hz ?_
    simp -dsimp -implicitDefEqProofs (disch := first | omega | (simp only [List.length_append, List.length_cons, List.length_nil, List.length_take, List.length_drop]; omega)) only [↓aPre, aPost, oneW, allOne, retV, retVA, simprocAttr]
    refine call_giv g42 ?_
    simp -dsimp -implicitDefEqProofs (disch := first | omega | (simp only [List.length_append, List.length_cons, List.length_nil, List.length_take, List.length_drop]; omega)) only [↓aPre, aPost, oneW, allOne, retV, retVA, simprocAttr]
    refine call_giv g62 ?_
    simp -dsimp -implicitDefEqProofs (disch := first | omega | (simp only [List.length_append, List.length_cons, List.length_nil, List.length_take, List.length_drop]; omega)) only [↓aPre, aPost, oneW, allOne, retV, retVA, simprocAttr]
    refine call_giv hs ?_
    simp -dsimp -implicitDefEqProofs (disch := first | omega | (simp only [List.length_append, List.length_cons, List.length_nil, List.length_take, List.length_drop]; omega)) only [↓aPre, aPost, oneW, allOne, retV, retVA, simprocAttr]
    refine call_giv g8 ?_
    simp -dsimp -implicitDefEqProofs (disch := first | omega | (simp only [List.length_append, List.length_cons, List.length_nil, List.length_take, List.length_drop]; omega)) only [↓aPre, aPost, oneW, allOne, retV, retVA, simprocAttr]
    exact post_eq rfl
  · have e0 : b.getD 0 0 = 77 := h0
    have e1 : b.getD 1 0 = 77 := h1
    simp -dsimp -implicitDefEqProofs (disch := first | omega | (simp only [List.length_append, List.length_cons, List.length_nil, List.length_take, List.length_drop]; omega)) only [a8, h', e0, e1, ↓aPre, aPost, oneW, allOne, retV, retVA, simprocAttr]
    refine call_giv g ?_
    simp -dsimp -implicitDefEqProofs (disch := first | omega | (simp only [List.length_append, List.length_cons, List.length_nil, List.length_take, List.length_drop]; omega)) only [↓aPre, aPost, oneW, allOne, retV, retVA, simprocAttr]
    refine call_giv hz ?_
    simp -dsimp -implicitDefEqProofs (disch := first | omega | (simp only [List.length_append, List.length_cons, List.length_nil, List.length_take, List.length_drop]; omega)) only [↓aPre, aPost, oneW, allOne, retV, retVA, simprocAttr]
    refine call_giv g42 ?_
    simp -dsimp -implicitDefEqProofs (disch := first | omega | (simp only [List.length_append, List.length_cons, List.length_nil, List.length_take, List.length_drop]; omega)) only [↓aPre, aPost, oneW, allOne, retV, retVA, simprocAttr]
    refine call_giv g62 ?_
    simp -dsimp -implicitDefEqProofs (disch := first | omega | (simp only [List.length_append, List.length_cons, List.length_nil, List.length_take, List.length_drop]; omega)) only [↓aPre, aPost, oneW, allOne, retV, retVA, simprocAttr]
    refine call_giv hs ?_
    simp -dsimp -implicitDefEqProofs (disch := first | omega | (simp only [List.length_append, List.length_cons, List.length_nil, List.length_take, List.length_drop]; omega)) only [↓aPre, aPost, oneW, allOne, retV, retVA, simprocAttr]
    refine call_giv g8 ?_
    simp -dsimp -implicitDefEqProofs (disch := first | omega | (simp only [List.length_append, List.length_cons, List.length_nil, List.length_take, List.length_drop]; omega)) only [↓aPre, aPost, oneW, allOne, retV, retVA, simprocAttr]
    exact post_eq rfl
theorem num_k (b : List Int) (p n : Nat) (big : Bool) (hn : n ≤ 8) (hB : Bytes b) (h : p + n ≤ b.length) : Giv Try.prog 27 [.c (.string (strOfNums ((b.drop p).take n))), .c (.bool big)] (retV [.c (.int .u64 (gk b p n big))]) := by
  have hl : ((b.drop p).take n).length = n := by rw [List.length_take, List.length_drop]; omega
  have := number_giv ((b.drop p).take n) big (by omega) ((hB.drop p).take n)
  rw [hl] at this
  exact this
theorem rread_id (b : List Int) (big : Bool) (hl : b.length ≤ 100000) (hB : Bytes b) (h : 4 ≤ b.length) (h0 : b.getD 0 0 = mg big) (h1 : b.getD 1 0 = mg big) (bad : gk b 2 2 big ≠ 42 ∧ gk b 2 2 big ≠ 43) : Giv Try.prog 9 [.c (.string (strOfNums b))] (retV [hD false false 0, .c (.int .i64 3)]) := by
  have h' : ¬ (b.length : Int) < 4 := by omega
  have g := num_k b 2 2 big (by decide) hB (by omega)
  have hg0 := (hB.get 0)
  obtain ⟨v, hv⟩ : ∃ v, v = gk b 2 2 big := ⟨_, rfl⟩
  have hb := gk_b hB 2 2 big (by decide)
  rw [← hv] at g bad hb
  have n42 := bad.1
  have n43 := bad.2
  refine Giv.of mixed c9 (Nat.le_of_ble_eq_true rfl) ?_
  cases big
  · have e0 : b.getD 0 0 = 73 := h0
    have e1 : b.getD 1 0 = 73 := h1
    have m1 := mag_beq hB h 73 (by decide)
    have m2 := mag_beq hB h 77 (by decide)
    rw [e0, e1] at m1 m2
    have m1' : ((strOfNums (b.take 2)).toList == (strOfNums [73, 73]).toList) = true := m1
    have m2' : ((strOfNums (b.take 2)).toList == (strOfNums [77, 77]).toList) = false := m2
    have e0s : (((strOfNums b).data.toList.getD 0 0).toNat : Int) = 73 := (str_get hB (by omega)).trans e0
    simp -dsimp -implicitDefEqProofs (disch := first | omega | (simp only [List.length_append, List.length_cons, List.length_nil, List.length_take, List.length_drop]; omega)) only [a9, h', m1', m2', e0s, ↓aPre, aPost, oneW, allOne, retV, retVA, simprocAttr]
    refine call_giv g ?_
    simp -dsimp -implicitDefEqProofs (disch := first | omega | (simp only [List.length_append, List.length_cons, List.length_nil, List.length_take, List.length_drop]; omega)) only [ibeq_f n42, ibne_t n43, ↓aPre, aPost, oneW, allOne, retV, retVA, simprocAttr]
    exact post_eq rfl
  · have e0 : b.getD 0 0 = 77 := h0
    have e1 : b.getD 1 0 = 77 := h1
    have m1 := mag_beq hB h 73 (by decide)
    have m2 := mag_beq hB h 77 (by decide)
    rw [e0, e1] at m1 m2
    have m1' : ((strOfNums (b.take 2)).toList == (strOfNums [73, 73]).toList) = false := m1
    have m2' : ((strOfNums (b.take 2)).toList == (strOfNums [77, 77]).toList) = true := m2
    have e0s : (((strOfNums b).data.toList.getD 0 0).toNat : Int) = 77 := (str_get hB (by omega)).trans e0
    simp -dsimp -implicitDefEqProofs (disch := first | omega | (simp only [List.length_append, List.length_cons, List.length_nil, List.length_take, List.length_drop]; omega)) only [a9, h', m1', m2', e0s, ↓aPre, aPost, oneW, allOne, retV, retVA, simprocAttr]
    refine call_giv g ?_
    simp -dsimp -implicitDefEqProofs (disch := first | omega | (simp only [List.length_append, List.length_cons, List.length_nil, List.length_take, List.length_drop]; omega)) only [ibeq_f n42, ibne_t n43, ↓aPre, aPost, oneW, allOne, retV, retVA, simprocAttr]
    exact post_eq rfl
theorem rread_n_e (b : List Int) (big : Bool) (hl : b.length ≤ 100000) (hB : Bytes b) (h : 4 ≤ b.length) (h0 : b.getD 0 0 = mg big) (h1 : b.getD 1 0 = mg big) (id : gk b 2 2 big = 42) (hs8 : b.length < 8) : Giv Try.prog 9 [.c (.string (strOfNums b))] (retV [hD false false 0, .c (.int .i64 2)]) := by
  have h' : ¬ (b.length : Int) < 4 := by omega
  have g := num_k b 2 2 big (by decide) hB (by omega)
  have hg0 := (hB.get 0)
  rw [id] at g
  have k8 : (b.length : Int) < 8 := by omega
  refine Giv.of mixed c9 (Nat.le_of_ble_eq_true rfl) ?_
  cases big
  · have e0 : b.getD 0 0 = 73 := h0
    have e1 : b.getD 1 0 = 73 := h1
    have m1 := mag_beq hB h 73 (by decide)
    have m2 := mag_beq hB h 77 (by decide)
    rw [e0, e1] at m1 m2
    have m1' : ((strOfNums (b.take 2)).toList == (strOfNums [73, 73]).toList) = true := m1
    have m2' : ((strOfNums (b.take 2)).toList == (strOfNums [77, 77]).toList) = false := m2
    have e0s : (((strOfNums b).data.toList.getD 0 0).toNat : Int) = 73 := (str_get hB (by omega)).trans e0
    simp -dsimp -implicitDefEqProofs (disch := first | omega | (simp only [List.length_append, List.length_cons, List.length_nil, List.length_take, List.length_drop]; omega)) only [a9, h', m1', m2', e0s, ↓aPre, aPost, oneW, allOne, retV, retVA, simprocAttr]
    refine call_giv g ?_
    simp -dsimp -implicitDefEqProofs (disch := first | omega | (simp only [List.length_append, List.length_cons, List.length_nil, List.length_take, List.length_drop]; omega)) only [k8, ↓aPre, aPost, oneW, allOne, retV, retVA, simprocAttr]
    exact post_eq rfl
  · have e0 : b.getD 0 0 = 77 := h0
    have e1 : b.getD 1 0 = 77 := h1
    have m1 := mag_beq hB h 73 (by decide)
    have m2 := mag_beq hB h 77 (by decide)
    rw [e0, e1] at m1 m2
    have m1' : ((strOfNums (b.take 2)).toList == (strOfNums [73, 73]).toList) = false := m1
    have m2' : ((strOfNums (b.take 2)).toList == (strOfNums [77, 77]).toList) = true := m2
    have e0s : (((strOfNums b).data.toList.getD 0 0).toNat : Int) = 77 := (str_get hB (by omega)).trans e0
    simp -dsimp -implicitDefEqProofs (disch := first | omega | (simp only [List.length_append, List.length_cons, List.length_nil, List.length_take, List.length_drop]; omega)) only [a9, h', m1', m2', e0s, ↓aPre, aPost, oneW, allOne, retV, retVA, simprocAttr]
    refine call_giv g ?_
    simp -dsimp -implicitDefEqProofs (disch := first | omega | (simp only [List.length_append, List.length_cons, List.length_nil, List.length_take, List.length_drop]; omega)) only [k8, ↓aPre, aPost, oneW, allOne, retV, retVA, simprocAttr]
    exact post_eq rfl
theorem rread_n_t (b : List Int) (big : Bool) (hl : b.length ≤ 100000) (hB : Bytes b) (h : 4 ≤ b.length) (h0 : b.getD 0 0 = mg big) (h1 : b.getD 1 0 = mg big) (id : gk b 2 2 big = 42) (hs8 : 8 ≤ b.length) : Giv Try.prog 9 [.c (.string (strOfNums b))] (retV [hD big false (gk b 4 4 big), .c (.int .i64 0)]) := by
  have h' : ¬ (b.length : Int) < 4 := by omega
  have g := num_k b 2 2 big (by decide) hB (by omega)
  have hg0 := (hB.get 0)
  rw [id] at g
  have k8 : ¬ (b.length : Int) < 8 := by omega
  have g4 := num_k b 4 4 big (by decide) hB (by omega)
  refine Giv.of mixed c9 (Nat.le_of_ble_eq_true rfl) ?_
  cases big
  · have e0 : b.getD 0 0 = 73 := h0
    have e1 : b.getD 1 0 = 73 := h1
    have m1 := mag_beq hB h 73 (by decide)
    have m2 := mag_beq hB h 77 (by decide)
    rw [e0, e1] at m1 m2
    have m1' : ((strOfNums (b.take 2)).toList == (strOfNums [73, 73]).toList) = true := m1
    have m2' : ((strOfNums (b.take 2)).toList == (strOfNums [77, 77]).toList) = false := m2
    have e0s : (((strOfNums b).data.toList.getD 0 0).toNat : Int) = 73 := (str_get hB (by omega)).trans e0
    simp -dsimp -implicitDefEqProofs (disch := first | omega | (simp only [List.length_append, List.length_cons, List.length_nil, List.length_take, List.length_drop]; omega)) only [a9, h', m1', m2', e0s, ↓aPre, aPost, oneW, allOne, retV, retVA, simprocAttr]
    refine call_giv g ?_
    simp -dsimp -implicitDefEqProofs (disch := first | omega | (simp only [List.length_append, List.length_cons, List.length_nil, List.length_take, List.length_drop]; omega)) only [k8, ↓aPre, aPost, oneW, allOne, retV, retVA, simprocAttr]
    refine call_giv g4 ?_
    simp -dsimp -implicitDefEqProofs (disch := first | omega | (simp only [List.length_append, List.length_cons, List.length_nil, List.length_take, List.length_drop]; omega)) only [↓aPre, aPost, oneW, allOne, retV, retVA, simprocAttr]
    exact post_eq rfl
  · have e0 : b.getD 0 0 = 77 := h0
    have e1 : b.getD 1 0 = 77 := h1
    have m1 := mag_beq hB h 73 (by decide)
    have m2 := mag_beq hB h 77 (by decide)
    rw [e0, e1] at m1 m2
    have m1' : ((strOfNums (b.take 2)).toList == (strOfNums [73, 73]).toList) = false := m1
    have m2' : ((strOfNums (b.take 2)).toList == (strOfNums [77, 77]).toList) = true := m2
    have e0s : (((strOfNums b).data.toList.getD 0 0).toNat : Int) = 77 := (str_get hB (by omega)).trans e0
    simp -dsimp -implicitDefEqProofs (disch := first | omega | (simp only [List.length_append, List.length_cons, List.length_nil, List.length_take, List.length_drop]; omega)) only [a9, h', m1', m2', e0s, ↓aPre, aPost, oneW, allOne, retV, retVA, simprocAttr]
    refine call_giv g ?_
    simp -dsimp -implicitDefEqProofs (disch := first | omega | (simp only [List.length_append, List.length_cons, List.length_nil, List.length_take, List.length_drop]; omega)) only [k8, ↓aPre, aPost, oneW, allOne, retV, retVA, simprocAttr]
    refine call_giv g4 ?_
    simp -dsimp -implicitDefEqProofs (disch := first | omega | (simp only [List.length_append, List.length_cons, List.length_nil, List.length_take, List.length_drop]; omega)) only [↓aPre, aPost, oneW, allOne, retV, retVA, simprocAttr]
    exact post_eq rfl
theorem rread_w_s (b : List Int) (big : Bool) (hl : b.length ≤ 100000) (hB : Bytes b) (h : 4 ≤ b.length) (h0 : b.getD 0 0 = mg big) (h1 : b.getD 1 0 = mg big) (id : gk b 2 2 big = 43) (hs8 : b.length < 8) : Giv Try.prog 9 [.c (.string (strOfNums b))] (retV [hD false false 0, .c (.int .i64 2)]) := by
  have h' : ¬ (b.length : Int) < 4 := by omega
  have g := num_k b 2 2 big (by decide) hB (by omega)
  have hg0 := (hB.get 0)
  rw [id] at g
  have k8 : (b.length : Int) < 8 := by omega
  refine Giv.of mixed c9 (Nat.le_of_ble_eq_true rfl) ?_
  cases big
  · have e0 : b.getD 0 0 = 73 := h0
    have e1 : b.getD 1 0 = 73 := h1
    have m1 := mag_beq hB h 73 (by decide)
    have m2 := mag_beq hB h 77 (by decide)
    rw [e0, e1] at m1 m2
    have m1' : ((strOfNums (b.take 2)).toList == (strOfNums [73, 73]).toList) = true := m1
    have m2' : ((strOfNums (b.take 2)).toList == (strOfNums [77, 77]).toList) = false := m2
    have e0s : (((strOfNums b).data.toList.getD 0 0).toNat : Int) = 73 := (str_get hB (by omega)).trans e0
    simp -dsimp -implicitDefEqProofs (disch := first | omega | (simp only [List.length_append, List.length_cons, List.length_nil, List.length_take, List.length_drop]; omega)) only [a9, h', m1', m2', e0s, ↓aPre, aPost, oneW, allOne, retV, retVA, simprocAttr]
    refine call_giv g ?_
    simp -dsimp -implicitDefEqProofs (disch := first | omega | (simp only [List.length_append, List.length_cons, List.length_nil, List.length_take, List.length_drop]; omega)) only [k8, ↓aPre, aPost, oneW, allOne, retV, retVA, simprocAttr]
    exact post_eq rfl
  · have e0 : b.getD 0 0 = 77 := h0
    have e1 : b.getD 1 0 = 77 := h1
    have m1 := mag_beq hB h 73 (by decide)
    have m2 := mag_beq hB h 77 (by decide)
    rw [e0, e1] at m1 m2
    have m1' : ((strOfNums (b.take 2)).toList == (strOfNums [73, 73]).toList) = false := m1
    have m2' : ((strOfNums (b.take 2)).toList == (strOfNums [77, 77]).toList) = true := m2
    have e0s : (((strOfNums b).data.toList.getD 0 0).toNat : Int) = 77 := (str_get hB (by omega)).trans e0
    simp -dsimp -implicitDefEqProofs (disch := first | omega | (simp only [List.length_append, List.length_cons, List.length_nil, List.length_take, List.length_drop]; omega)) only [a9, h', m1', m2', e0s, ↓aPre, aPost, oneW, allOne, retV, retVA, simprocAttr]
    refine call_giv g ?_
    simp -dsimp -implicitDefEqProofs (disch := first | omega | (simp only [List.length_append, List.length_cons, List.length_nil, List.length_take, List.length_drop]; omega)) only [k8, ↓aPre, aPost, oneW, allOne, retV, retVA, simprocAttr]
    exact post_eq rfl
theorem rread_w_b1 (b : List Int) (big : Bool) (hl : b.length ≤ 100000) (hB : Bytes b) (h : 4 ≤ b.length) (h0 : b.getD 0 0 = mg big) (h1 : b.getD 1 0 = mg big) (id : gk b 2 2 big = 43) (hs8 : 8 ≤ b.length) (bad : gk b 4 2 big ≠ 8) : Giv Try.prog 9 [.c (.string (strOfNums b))] (retV [hD false false 0, .c (.int .i64 3)]) := by
  have h' : ¬ (b.length : Int) < 4 := by omega
  have g := num_k b 2 2 big (by decide) hB (by omega)
  have hg0 := (hB.get 0)
  rw [id] at g
  have k8 : ¬ (b.length : Int) < 8 := by omega
  have g42 := num_k b 4 2 big (by decide) hB (by omega)
  have g62 := num_k b 6 2 big (by decide) hB (by omega)
  have b42 := gk_b hB 4 2 big (by decide)
  have b62 := gk_b hB 6 2 big (by decide)
  obtain ⟨u, hu⟩ : ∃ u, u = gk b 4 2 big := ⟨_, rfl⟩
  obtain ⟨v, hv⟩ : ∃ v, v = gk b 6 2 big := ⟨_, rfl⟩
  rw [← hu] at g42 b42
  rw [← hv] at g62 b62
  rw [← hu] at bad
  refine Giv.of mixed c9 (Nat.le_of_ble_eq_true rfl) ?_
  cases big
  · have e0 : b.getD 0 0 = 73 := h0
    have e1 : b.getD 1 0 = 73 := h1
    have m1 := mag_beq hB h 73 (by decide)
    have m2 := mag_beq hB h 77 (by decide)
    rw [e0, e1] at m1 m2
    have m1' : ((strOfNums (b.take 2)).toList == (strOfNums [73, 73]).toList) = true := m1
    have m2' : ((strOfNums (b.take 2)).toList == (strOfNums [77, 77]).toList) = false := m2
    have e0s : (((strOfNums b).data.toList.getD 0 0).toNat : Int) = 73 := (str_get hB (by omega)).trans e0
    simp -dsimp -implicitDefEqProofs (disch := first | omega | (simp only [List.length_append, List.length_cons, List.length_nil, List.length_take, List.length_drop]; omega)) only [a9, h', m1', m2', e0s, ↓aPre, aPost, oneW, allOne, retV, retVA, simprocAttr]
    refine call_giv g ?_
    simp -dsimp -implicitDefEqProofs (disch := first | omega | (simp only [List.length_append, List.length_cons, List.length_nil, List.length_take, List.length_drop]; omega)) only [k8, ↓aPre, aPost, oneW, allOne, retV, retVA, simprocAttr]
    refine call_giv g42 ?_
    simp -dsimp -implicitDefEqProofs (disch := first | omega | (simp only [List.length_append, List.length_cons, List.length_nil, List.length_take, List.length_drop]; omega)) only [ibne_t bad, ↓aPre, aPost, oneW, allOne, retV, retVA, simprocAttr]
    exact post_eq rfl
  · have e0 : b.getD 0 0 = 77 := h0
    have e1 : b.getD 1 0 = 77 := h1
    have m1 := mag_beq hB h 73 (by decide)
    have m2 := mag_beq hB h 77 (by decide)
    rw [e0, e1] at m1 m2
    have m1' : ((strOfNums (b.take 2)).toList == (strOfNums [73, 73]).toList) = false := m1
    have m2' : ((strOfNums (b.take 2)).toList == (strOfNums [77, 77]).toList) = true := m2
    have e0s : (((strOfNums b).data.toList.getD 0 0).toNat : Int) = 77 := (str_get hB (by omega)).trans e0
    simp -dsimp -implicitDefEqProofs (disch := first | omega | (simp only [List.length_append, List.length_cons, List.length_nil, List.length_take, List.length_drop]; omega)) only [a9, h', m1', m2', e0s, ↓aPre, aPost, oneW, allOne, retV, retVA, simprocAttr]
    refine call_giv g ?_
    simp -dsimp -implicitDefEqProofs (disch := first | omega | (simp only [List.length_append, List.length_cons, List.length_nil, List.length_take, List.length_drop]; omega)) only [k8, ↓aPre, aPost, oneW, allOne, retV, retVA, simprocAttr]
    refine call_giv g42 ?_
    simp -dsimp -implicitDefEqProofs (disch := first | omega | (simp only [List.length_append, List.length_cons, List.length_nil, List.length_take, List.length_drop]; omega)) only [ibne_t bad, ↓aPre, aPost, oneW, allOne, retV, retVA, simprocAttr]
    exact post_eq rfl
theorem rread_w_b2 (b : List Int) (big : Bool) (hl : b.length ≤ 100000) (hB : Bytes b) (h : 4 ≤ b.length) (h0 : b.getD 0 0 = mg big) (h1 : b.getD 1 0 = mg big) (id : gk b 2 2 big = 43) (hs8 : 8 ≤ b.length) (ok : gk b 4 2 big = 8) (bad : gk b 6 2 big ≠ 0) : Giv Try.prog 9 [.c (.string (strOfNums b))] (retV [hD false false 0, .c (.int .i64 3)]) := by
  have h' : ¬ (b.length : Int) < 4 := by omega
  have g := num_k b 2 2 big (by decide) hB (by omega)
  have hg0 := (hB.get 0)
  rw [id] at g
  have k8 : ¬ (b.length : Int) < 8 := by omega
  have g42 := num_k b 4 2 big (by decide) hB (by omega)
  have g62 := num_k b 6 2 big (by decide) hB (by omega)
  have b42 := gk_b hB 4 2 big (by decide)
  have b62 := gk_b hB 6 2 big (by decide)
  obtain ⟨u, hu⟩ : ∃ u, u = gk b 4 2 big := ⟨_, rfl⟩
  obtain ⟨v, hv⟩ : ∃ v, v = gk b 6 2 big := ⟨_, rfl⟩
  rw [← hu] at g42 b42
  rw [← hv] at g62 b62
  rw [← hu] at ok
  subst ok
  rw [← hv] at bad
  refine Giv.of mixed c9 (Nat.le_of_ble_eq_true rfl) ?_
  cases big
  · have e0 : b.getD 0 0 = 73 := h0
    have e1 : b.getD 1 0 = 73 := h1
    have m1 := mag_beq hB h 73 (by decide)
    have m2 := mag_beq hB h 77 (by decide)
    rw [e0, e1] at m1 m2
    have m1' : ((strOfNums (b.take 2)).toList == (strOfNums [73, 73]).toList) = true := m1
    have m2' : ((strOfNums (b.take 2)).toList == (strOfNums [77, 77]).toList) = false := m2
    have e0s : (((strOfNums b).data.toList.getD 0 0).toNat : Int) = 73 := (str_get hB (by omega)).trans e0
    simp -dsimp -implicitDefEqProofs (disch := first | omega | (simp only [List.length_append, List.length_cons, List.length_nil, List.length_take, List.length_drop]; omega)) only [a9, h', m1', m2', e0s, ↓aPre, aPost, oneW, allOne, retV, retVA, simprocAttr]
    refine call_giv g ?_
    simp -dsimp -implicitDefEqProofs (disch := first | omega | (simp only [List.length_append, List.length_cons, List.length_nil, List.length_take, List.length_drop]; omega)) only [k8, ↓aPre, aPost, oneW, allOne, retV, retVA, simprocAttr]
    refine call_giv g42 ?_
    simp -dsimp -implicitDefEqProofs (disch := first | omega | (simp only [List.length_append, List.length_cons, List.length_nil, List.length_take, List.length_drop]; omega)) only [↓aPre, aPost, oneW, allOne, retV, retVA, simprocAttr]
    refine call_giv g62 ?_
    simp -dsimp -implicitDefEqProofs (disch := first | omega | (simp only [List.length_append, List.length_cons, List.length_nil, List.length_take, List.length_drop]; omega)) only [ibne_t bad, ↓aPre, aPost, oneW, allOne, retV, retVA, simprocAttr]
    exact post_eq rfl
  · have e0 : b.getD 0 0 = 77 := h0
    have e1 : b.getD 1 0 = 77 := h1
    have m1 := mag_beq hB h 73 (by decide)
    have m2 := mag_beq hB h 77 (by decide)
    rw [e0, e1] at m1 m2
    have m1' : ((strOfNums (b.take 2)).toList == (strOfNums [73, 73]).toList) = false := m1
    have m2' : ((strOfNums (b.take 2)).toList == (strOfNums [77, 77]).toList) = true := m2
    have e0s : (((strOfNums b).data.toList.getD 0 0).toNat : Int) = 77 := (str_get hB (by omega)).trans e0
    simp -dsimp -implicitDefEqProofs (disch := first | omega | (simp only [List.length_append, List.length_cons, List.length_nil, List.length_take, List.length_drop]; omega)) only [a9, h', m1', m2', e0s, ↓aPre, aPost, oneW, allOne, retV, retVA, simprocAttr]
    refine call_giv g ?_
    simp -dsimp -implicitDefEqProofs (disch := first | omega | (simp only [List.length_append, List.length_cons, List.length_nil, List.length_take, List.length_drop]; omega)) only [k8, ↓aPre, aPost, oneW, allOne, retV, retVA, simprocAttr]
    refine call_giv g42 ?_
    simp -dsimp -implicitDefEqProofs (disch := first | omega | (simp only [List.length_append, List.length_cons, List.length_nil, List.length_take, List.length_drop]; omega)) only [↓aPre, aPost, oneW, allOne, retV, retVA, simprocAttr]
    refine call_giv g62 ?_
    simp -dsimp -implicitDefEqProofs (disch := first | omega | (simp only [List.length_append, List.length_cons, List.length_nil, List.length_take, List.length_drop]; omega)) only [ibne_t bad, ↓aPre, aPost, oneW, allOne, retV, retVA, simprocAttr]
    exact post_eq rfl
theorem rread_w_e (b : List Int) (big : Bool) (hl : b.length ≤ 100000) (hB : Bytes b) (h : 4 ≤ b.length) (h0 : b.getD 0 0 = mg big) (h1 : b.getD 1 0 = mg big) (id : gk b 2 2 big = 43) (hs8 : 8 ≤ b.length) (hs16 : b.length < 16) (ok : gk b 4 2 big = 8) (ok2 : gk b 6 2 big = 0) : Giv Try.prog 9 [.c (.string (strOfNums b))] (retV [hD false false 0, .c (.int .i64 2)]) := by
  have h' : ¬ (b.length : Int) < 4 := by omega
  have g := num_k b 2 2 big (by decide) hB (by omega)
  have hg0 := (hB.get 0)
  rw [id] at g
  have k8 : ¬ (b.length : Int) < 8 := by omega
  have g42 := num_k b 4 2 big (by decide) hB (by omega)
  have g62 := num_k b 6 2 big (by decide) hB (by omega)
  rw [ok] at g42
  rw [ok2] at g62
  have k16 : (b.length : Int) < 16 := by omega
  refine Giv.of mixed c9 (Nat.le_of_ble_eq_true rfl) ?_
  cases big
  · have e0 : b.getD 0 0 = 73 := h0
    have e1 : b.getD 1 0 = 73 := h1
    have m1 := mag_beq hB h 73 (by decide)
    have m2 := mag_beq hB h 77 (by decide)
    rw [e0, e1] at m1 m2
    have m1' : ((strOfNums (b.take 2)).toList == (strOfNums [73, 73]).toList) = true := m1
    have m2' : ((strOfNums (b.take 2)).toList == (strOfNums [77, 77]).toList) = false := m2
    have e0s : (((strOfNums b).data.toList.getD 0 0).toNat : Int) = 73 := (str_get hB (by omega)).trans e0
    simp -dsimp -implicitDefEqProofs (disch := first | omega | (simp only [List.length_append, List.length_cons, List.length_nil, List.length_take, List.length_drop]; omega)) only [a9, h', m1', m2', e0s, ↓aPre, aPost, oneW, allOne, retV, retVA, simprocAttr]
    refine call_giv g ?_
    simp -dsimp -implicitDefEqProofs (disch := first | omega | (simp only [List.length_append, List.length_cons, List.length_nil, List.length_take, List.length_drop]; omega)) only [k8, ↓aPre, aPost, oneW, allOne, retV, retVA, simprocAttr]
    refine call_giv g42 ?_
    simp -dsimp -implicitDefEqProofs (disch := first | omega | (simp only [List.length_append, List.length_cons, List.length_nil, List.length_take, List.length_drop]; omega)) only [↓aPre, aPost, oneW, allOne, retV, retVA, simprocAttr]
    refine call_giv g62 ?_
    simp -dsimp -implicitDefEqProofs (disch := first | omega | (simp only [List.length_append, List.length_cons, List.length_nil, List.length_take, List.length_drop]; omega)) only [k16, ↓aPre, aPost, oneW, allOne, retV, retVA, simprocAttr]
    exact post_eq rfl
  · have e0 : b.getD 0 0 = 77 := h0
    have e1 : b.getD 1 0 = 77 := h1
    have m1 := mag_beq hB h 73 (by decide)
    have m2 := mag_beq hB h 77 (by decide)
    rw [e0, e1] at m1 m2
    have m1' : ((strOfNums (b.take 2)).toList == (strOfNums [73, 73]).toList) = false := m1
    have m2' : ((strOfNums (b.take 2)).toList == (strOfNums [77, 77]).toList) = true := m2
    have e0s : (((strOfNums b).data.toList.getD 0 0).toNat : Int) = 77 := (str_get hB (by omega)).trans e0
    simp -dsimp -implicitDefEqProofs (disch := first | omega | (simp only [List.length_append, List.length_cons, List.length_nil, List.length_take, List.length_drop]; omega)) only [a9, h', m1', m2', e0s, ↓aPre, aPost, oneW, allOne, retV, retVA, simprocAttr]
    refine call_giv g ?_
    simp -dsimp -implicitDefEqProofs (disch := first | omega | (simp only [List.length_append, List.length_cons, List.length_nil, List.length_take, List.length_drop]; omega)) only [k8, ↓aPre, aPost, oneW, allOne, retV, retVA, simprocAttr]
    refine call_giv g42 ?_
    simp -dsimp -implicitDefEqProofs (disch := first | omega | (simp only [List.length_append, List.length_cons, List.length_nil, List.length_take, List.length_drop]; omega)) only [↓aPre, aPost, oneW, allOne, retV, retVA, simprocAttr]
    refine call_giv g62 ?_
    simp -dsimp -implicitDefEqProofs (disch := first | omega | (simp only [List.length_append, List.length_cons, List.length_nil, List.length_take, List.length_drop]; omega)) only [k16, ↓aPre, aPost, oneW, allOne, retV, retVA, simprocAttr]
    exact post_eq rfl
theorem rread_w_t (b : List Int) (big : Bool) (hl : b.length ≤ 100000) (hB : Bytes b) (h : 4 ≤ b.length) (h0 : b.getD 0 0 = mg big) (h1 : b.getD 1 0 = mg big) (id : gk b 2 2 big = 43) (hs16 : 16 ≤ b.length) (ok : gk b 4 2 big = 8) (ok2 : gk b 6 2 big = 0) : Giv Try.prog 9 [.c (.string (strOfNums b))] (retV [hD big true (gk b 8 8 big), .c (.int .i64 0)]) := by
  have h' : ¬ (b.length : Int) < 4 := by omega
  have g := num_k b 2 2 big (by decide) hB (by omega)
  have hg0 := (hB.get 0)
  rw [id] at g
  have k8 : ¬ (b.length : Int) < 8 := by omega
  have g42 := num_k b 4 2 big (by decide) hB (by omega)
  have g62 := num_k b 6 2 big (by decide) hB (by omega)
  rw [ok] at g42
  rw [ok2] at g62
  have k16 : ¬ (b.length : Int) < 16 := by omega
  have g8 := num_k b 8 8 big (by decide) hB (by omega)
  refine Giv.of mixed c9 (Nat.le_of_ble_eq_true rfl) ?_
  cases big
  · have e0 : b.getD 0 0 = 73 := h0
    have e1 : b.getD 1 0 = 73 := h1
    have m1 := mag_beq hB h 73 (by decide)
    have m2 := mag_beq hB h 77 (by decide)
    rw [e0, e1] at m1 m2
    have m1' : ((strOfNums (b.take 2)).toList == (strOfNums [73, 73]).toList) = true := m1
    have m2' : ((strOfNums (b.take 2)).toList == (strOfNums [77, 77]).toList) = false := m2
    have e0s : (((strOfNums b).data.toList.getD 0 0).toNat : Int) = 73 := (str_get hB (by omega)).trans e0
    simp -dsimp -implicitDefEqProofs (disch := first | omega | (simp only [List.length_append, List.length_cons, List.length_nil, List.length_take, List.length_drop]; omega)) only [a9, h', m1', m2', e0s, ↓aPre, aPost, oneW, allOne, retV, retVA, simprocAttr]
    refine call_giv g ?_
    simp -dsimp -implicitDefEqProofs (disch := first | omega | (simp only [List.length_append, List.length_cons, List.length_nil, List.length_take, List.length_drop]; omega)) only [k8, ↓aPre, aPost, oneW, allOne, retV, retVA, simprocAttr]
    refine call_giv g42 ?_
    simp -dsimp -implicitDefEqProofs (disch := first | omega | (simp only [List.length_append, List.length_cons, List.length_nil, List.length_take, List.length_drop]; omega)) only [↓aPre, aPost, oneW, allOne, retV, retVA, simprocAttr]
    refine call_giv g62 ?_
    simp -dsimp -implicitDefEqProofs (disch := first | omega | (simp only [List.length_append, List.length_cons, List.length_nil, List.length_take, List.length_drop]; omega)) only [k16, ↓aPre, aPost, oneW, allOne, retV, retVA, simprocAttr]
    refine call_giv g8 ?_
    simp -dsimp -implicitDefEqProofs (disch := first | omega | (simp only [List.length_append, List.length_cons, List.length_nil, List.length_take, List.length_drop]; omega)) only [↓aPre, aPost, oneW, allOne, retV, retVA, simprocAttr]
    exact post_eq rfl
  · have e0 : b.getD 0 0 = 77 := h0
    have e1 : b.getD 1 0 = 77 := h1
    have m1 := mag_beq hB h 73 (by decide)
    have m2 := mag_beq hB h 77 (by decide)
    rw [e0, e1] at m1 m2
    have m1' : ((strOfNums (b.take 2)).toList == (strOfNums [73, 73]).toList) = false := m1
    have m2' : ((strOfNums (b.take 2)).toList == (strOfNums [77, 77]).toList) = true := m2
    have e0s : (((strOfNums b).data.toList.getD 0 0).toNat : Int) = 77 := (str_get hB (by omega)).trans e0
    simp -dsimp -implicitDefEqProofs (disch := first | omega | (simp only [List.length_append, List.length_cons, List.length_nil, List.length_take, List.length_drop]; omega)) only [a9, h', m1', m2', e0s, ↓aPre, aPost, oneW, allOne, retV, retVA, simprocAttr]
    refine call_giv g ?_
    simp -dsimp -implicitDefEqProofs (disch := first | omega | (simp only [List.length_append, List.length_cons, List.length_nil, List.length_take, List.length_drop]; omega)) only [k8, ↓aPre, aPost, oneW, allOne, retV, retVA, simprocAttr]
    refine call_giv g42 ?_
    simp -dsimp -implicitDefEqProofs (disch := first | omega | (simp only [List.length_append, List.length_cons, List.length_nil, List.length_take, List.length_drop]; omega)) only [↓aPre, aPost, oneW, allOne, retV, retVA, simprocAttr]
    refine call_giv g62 ?_
    simp -dsimp -implicitDefEqProofs (disch := first | omega | (simp only [List.length_append, List.length_cons, List.length_nil, List.length_take, List.length_drop]; omega)) only [k16, ↓aPre, aPost, oneW, allOne, retV, retVA, simprocAttr]
    refine call_giv g8 ?_
    simp -dsimp -implicitDefEqProofs (disch := first | omega | (simp only [List.length_append, List.length_cons, List.length_nil, List.length_take, List.length_drop]; omega)) only [↓aPre, aPost, oneW, allOne, retV, retVA, simprocAttr]
    exact post_eq rfl
end Go.Proofs.Ytkdkhngdilhneaa

/- The bytes of values, of any type. No condition but what each says. -/
import Derived.Test.YtkdkhngdilhneaaWFPut
set_option linter.unusedSimpArgs false
set_option linter.unusedVariables false
set_option maxRecDepth 8000
set_option maxHeartbeats 4000000
namespace Go.Proofs.Ytkdkhngdilhneaa
open Go.Eng Go.RowKit
def cat (f : Nat → List Int) : Nat → List Int
  | 0 => []
  | k + 1 => cat f k ++ f k
def vN (l : List Int) (j : Nat) : Nat := (l.getD j 0).toNat
def U64 (l : List Int) : Prop := ∀ x ∈ l, 0 ≤ x ∧ x < 18446744073709551616
theorem vN_eq {l : List Int} (h : U64 l) {j : Nat} (hj : j < l.length) : l.getD j 0 = (vN l j : Nat) ∧ vN l j < 18446744073709551616 := by
  have := h _ (List.getElem_mem hj)
  rw [vN, List.getD_eq_getElem?_getD, List.getElem?_eq_getElem hj, Option.getD_some]
  omega
def fitsP (z : Nat) (l : List Int) : Prop := ∀ j, j < l.length → vN l j < 256 ^ z
def bl1 (z : Nat) (l : List Int) (big : Bool) (j : Nat) : List Int := putL (vN l j) z big
def blf (l : List Int) (big : Bool) (j : Nat) : List Int := putL (vN l j / 4294967296) 4 big ++ putL (vN l j % 4294967296) 4 big
theorem cat_len {f : Nat → List Int} {z : Nat} (h : ∀ j, (f j).length = z) : ∀ i, (cat f i).length = i * z
  | 0 => by rw [cat, Nat.zero_mul]; rfl
  | i + 1 => by rw [cat, List.length_append, h, cat_len h i, Nat.succ_mul]
theorem bl1_len (z : Nat) (l : List Int) (big : Bool) (j : Nat) : (bl1 z l big j).length = z := putL_len ..
theorem blf_len (l : List Int) (big : Bool) (j : Nat) : (blf l big j).length = 8 := by rw [blf, List.length_append, putL_len, putL_len]
theorem and_32 (v : Nat) (h : v < 18446744073709551616) : bits .and .u64 (v : Int) 4294967295 = ((v % 4294967296 : Nat) : Int) := by
  rw [u64_and _ _ (by omega) (by omega) (by decide) (by decide), Int.toNat_natCast, show (4294967295 : Int).toNat = 2 ^ 32 - 1 from rfl, Nat.and_two_pow_sub_one_eq_mod]
theorem write_1 (kind : Int) (z : Nat) (hz : sizedP z) (hsz : Giv Try.prog 37 [.c (.int .i64 kind)] (retV [.c (.int .i64 z), .c (.int .i64 0)])) (hp : Giv Try.prog 51 [.c (.int .i64 kind)] (retV [.c (.int .i64 1), .c (.int .i64 z)])) (l : List Int) (big : Bool) (hl : l.length ≤ 65536) (hU : U64 l) (out : List D) (h1 : fitsP z l → out = [.lst 1 (li .u8 (cat (bl1 z l big) l.length)), .c (.int .i64 0)]) (h2 : ¬ fitsP z l → out = [.lst 1 (li .u8 []), .c (.int .i64 7)]) :
    Giv Try.prog 32 [.lst 1 (li .u64 l), .c (.int .i64 kind), .c (.bool big)] (retV out) := by
  refine Giv.of mixed c32 (Nat.le_of_ble_eq_true rfl) ?_
  have hz8 : 1 ≤ z ∧ z ≤ 8 := by unfold sizedP at hz; omega
  simp -dsimp -implicitDefEqProofs (disch := first | omega | (simp only [List.length_append, List.length_cons, List.length_nil, List.length_take, List.length_drop]; omega)) only [a32, ↓aPre, aPost, oneW, allOne, retV, retVA, simprocAttr]
  refine call_giv hsz ?_
  simp -dsimp -implicitDefEqProofs (disch := first | omega | (simp only [List.length_append, List.length_cons, List.length_nil, List.length_take, List.length_drop]; omega)) only [↓aPre, aPost, oneW, allOne, retV, retVA, simprocAttr]
  refine call_giv hp ?_
  simp -dsimp -implicitDefEqProofs (disch := first | omega | (simp only [List.length_append, List.length_cons, List.length_nil, List.length_take, List.length_drop]; omega)) only [↓aPre, aPost, oneW, allOne, retV, retVA, simprocAttr]
  refine loop_of (fun s => ∃ (i : Nat), i ≤ l.length ∧ (∀ j, j < i → vN l j < 256 ^ z) ∧ s.tm 40 = .d (.c (.int .i64 i)) ∧ s.tm 39 = .d (.c (.int .i64 l.length)) ∧ s.tm 38 = .d (.lst 1 (li .u64 l)) ∧ s.tm 2 = .d (.c (.bool big)) ∧ s.tm 8 = .d (.c (.int .i64 z)) ∧ s.tm 11 = .d (.c (.int .i64 1)) ∧ s.tm 12 = .d (.c (.int .i64 z)) ∧ s.tm 10 = .sl 32 1 0 (cat (bl1 z l big) i).length ∧ s.hp 32 = some (.row 1 (li .u8 (cat (bl1 z l big) i)))) (fun s => l.length - (avN (s.tm 40)).toNat) ?_ ?_
  · refine ⟨0, Nat.zero_le _, fun j h => absurd h (Nat.not_lt_zero _), ?_⟩
    simp -dsimp -implicitDefEqProofs (disch := first | omega | (simp only [List.length_append, List.length_cons, List.length_nil, List.length_take, List.length_drop]; omega)) only [cat, Int.natCast_zero, ↓aPre, aPost, oneW, allOne, retV, retVA, simprocAttr]
  rintro s ⟨i, hi, hf, hs⟩
  by_cases hlt : i < l.length
  · obtain ⟨hv, hvb⟩ := vN_eq hU hlt
    obtain ⟨v, hvn⟩ : ∃ v, v = vN l i := ⟨_, rfl⟩
    rw [← hvn] at hv hvb
    have hcl : (cat (bl1 z l big) i).length ≤ 524288 := by
      rw [cat_len (bl1_len z l big)]
      exact Nat.le_trans (Nat.mul_le_mul (show i ≤ 65536 by omega) (show z ≤ 8 by omega)) (by decide)
    have hsh := fdiv_pow v z hz8.2
    by_cases hfit : v < 256 ^ z
    · rw [Nat.div_eq_of_lt hfit] at hsh
      have hf' : ∀ j, j < i + 1 → vN l j < 256 ^ z := fun j hj => by
        by_cases h : j = i
        · rw [h, ← hvn]; exact hfit
        · exact hf j (by omega)
      by_cases h8 : (z : Int) < 8
      all_goals
        simp -dsimp -implicitDefEqProofs (disch := first | omega | (simp only [List.length_append, List.length_cons, List.length_nil, List.length_take, List.length_drop]; omega)) only [hs, hv, hsh, Int.natCast_zero, ↓aPre, aPost, oneW, allOne, retV, retVA, simprocAttr]
        refine loop_of (fun s => s.tm 53 = .d (.c (.int .i64 1)) ∧ s.tm 40 = .d (.c (.int .i64 i)) ∧ s.tm 14 = .d (.c (.int .u64 v)) ∧ (s.tm 39 = .d (.c (.int .i64 l.length)) ∧ s.tm 38 = .d (.lst 1 (li .u64 l)) ∧ s.tm 2 = .d (.c (.bool big)) ∧ s.tm 8 = .d (.c (.int .i64 z)) ∧ s.tm 11 = .d (.c (.int .i64 1)) ∧ s.tm 12 = .d (.c (.int .i64 z))) ∧ ((s.tm 54 = .d (.c (.int .i64 0)) ∧ s.tm 10 = .sl 32 1 0 (cat (bl1 z l big) i).length ∧ s.hp 32 = some (.row 1 (li .u8 (cat (bl1 z l big) i)))) ∨ (s.tm 54 = .d (.c (.int .i64 1)) ∧ s.tm 10 = .sl 32 1 0 (cat (bl1 z l big) i ++ putL v z big).length ∧ s.hp 32 = some (.row 1 (li .u8 (cat (bl1 z l big) i ++ putL v z big)))))) (fun s => 3 - (avN (s.tm 54)).toNat) ?_ ?_
        · refine ⟨?_, ?_, ?_, ?_, .inl ⟨?_, ?_, ?_⟩⟩
          all_goals
            simp -dsimp -implicitDefEqProofs (disch := first | omega | (simp only [List.length_append, List.length_cons, List.length_nil, List.length_take, List.length_drop]; omega)) only [hs, hv, hsh, Int.natCast_zero, ↓aPre, aPost, oneW, allOne, retV, retVA, simprocAttr]
        rintro s2 ⟨k53, k40, k14, kb, kk⟩
        rcases kk with ⟨k54, kp⟩ | ⟨k54, kp⟩
        · have hg := put_t v z big hz hfit hvb
          have pl := putL_len v z big
          simp -dsimp -implicitDefEqProofs (disch := first | omega | (simp only [List.length_append, List.length_cons, List.length_nil, List.length_take, List.length_drop]; omega)) only [k53, k40, k14, kb, k54, kp, List.length_append, pl, ↓aPre, aPost, oneW, allOne, retV, retVA, simprocAttr]
          refine call_giv hg ?_
          simp -dsimp -implicitDefEqProofs (disch := first | omega | (simp only [List.length_append, List.length_cons, List.length_nil, List.length_take, List.length_drop]; omega)) only [k53, k40, k14, kb, k54, kp, List.length_append, pl, ↓aPre, aPost, oneW, allOne, retV, retVA, simprocAttr]
          refine round_of ⟨?_, ?_, ?_, ?_, (.inr ⟨?_, ?_, ?_⟩)⟩ ?_
          all_goals
            simp -dsimp -implicitDefEqProofs (disch := first | omega | (simp only [List.length_append, List.length_cons, List.length_nil, List.length_take, List.length_drop]; omega)) only [k53, k40, k14, kb, k54, kp, List.length_append, pl, ↓aPre, aPost, oneW, allOne, retV, retVA, simprocAttr]
        · have hc : cat (bl1 z l big) (i + 1) = cat (bl1 z l big) i ++ putL v z big := by rw [cat, bl1, ← hvn]
          rw [← hc] at kp
          simp -dsimp -implicitDefEqProofs (disch := first | omega | (simp only [List.length_append, List.length_cons, List.length_nil, List.length_take, List.length_drop]; omega)) only [k53, k40, k14, kb, k54, kp, ↓aPre, aPost, oneW, allOne, retV, retVA, simprocAttr]
          refine round_of ⟨i + 1, by omega, hf', ?_⟩ ?_
          · simp -dsimp -implicitDefEqProofs (disch := first | omega | (simp only [List.length_append, List.length_cons, List.length_nil, List.length_take, List.length_drop]; omega)) only [k53, k40, k14, kb, k54, kp, ↓aPre, aPost, oneW, allOne, retV, retVA, simprocAttr]
          · simp -dsimp -implicitDefEqProofs (disch := first | omega | (simp only [List.length_append, List.length_cons, List.length_nil, List.length_take, List.length_drop]; omega)) only [k53, k40, k14, kb, k54, kp, hs, ↓aPre, aPost, oneW, allOne, retV, retVA, simprocAttr]
            omega
    · have h8 : (z : Int) < 8 := by
        by_cases h : z = 8
        · subst h; omega
        · omega
      rw [h2 (fun h => hfit (by rw [hvn]; exact h i hlt))]
      have h0 : ¬ ((v / 256 ^ z : Nat) : Int) = 0 := by
        intro h
        have h3 : v / 256 ^ z = 0 := by omega
        rcases Nat.div_eq_zero_iff.1 h3 with h4 | h4
        · have := Nat.pow_pos (n := z) (show 0 < 256 by decide); omega
        · exact hfit h4
      simp -dsimp -implicitDefEqProofs (disch := first | omega | (simp only [List.length_append, List.length_cons, List.length_nil, List.length_take, List.length_drop]; omega)) only [hs, hv, hsh, ibne_t h0, h0, ↓aPre, aPost, oneW, allOne, retV, retVA, simprocAttr]
      exact post_le (by repeat (first | exact leD.nil | exact leE.refl _ | exact leE.nil _ | refine leD.cons ?_ ?_ | refine leE.agg ?_))
  · obtain rfl : i = l.length := by omega
    rw [h1 hf]
    simp -dsimp -implicitDefEqProofs (disch := first | omega | (simp only [List.length_append, List.length_cons, List.length_nil, List.length_take, List.length_drop]; omega)) only [hs, ↓aPre, aPost, oneW, allOne, retV, retVA, simprocAttr]
    exact post_eq rfl
theorem write_f (kind : Int) (hsz : Giv Try.prog 37 [.c (.int .i64 kind)] (retV [.c (.int .i64 8), .c (.int .i64 0)])) (hp : Giv Try.prog 51 [.c (.int .i64 kind)] (retV [.c (.int .i64 2), .c (.int .i64 4)])) (l : List Int) (big : Bool) (hl : l.length ≤ 65536) (hU : U64 l) :
    Giv Try.prog 32 [.lst 1 (li .u64 l), .c (.int .i64 kind), .c (.bool big)] (retV [.lst 1 (li .u8 (cat (blf l big) l.length)), .c (.int .i64 0)]) := by
  refine Giv.of mixed c32 (Nat.le_of_ble_eq_true rfl) ?_
  simp -dsimp -implicitDefEqProofs (disch := first | omega | (simp only [List.length_append, List.length_cons, List.length_nil, List.length_take, List.length_drop]; omega)) only [a32, ↓aPre, aPost, oneW, allOne, retV, retVA, simprocAttr]
  refine call_giv hsz ?_
  simp -dsimp -implicitDefEqProofs (disch := first | omega | (simp only [List.length_append, List.length_cons, List.length_nil, List.length_take, List.length_drop]; omega)) only [↓aPre, aPost, oneW, allOne, retV, retVA, simprocAttr]
  refine call_giv hp ?_
  simp -dsimp -implicitDefEqProofs (disch := first | omega | (simp only [List.length_append, List.length_cons, List.length_nil, List.length_take, List.length_drop]; omega)) only [↓aPre, aPost, oneW, allOne, retV, retVA, simprocAttr]
  refine loop_of (fun s => ∃ (i : Nat), i ≤ l.length ∧ s.tm 40 = .d (.c (.int .i64 i)) ∧ s.tm 39 = .d (.c (.int .i64 l.length)) ∧ s.tm 38 = .d (.lst 1 (li .u64 l)) ∧ s.tm 2 = .d (.c (.bool big)) ∧ s.tm 8 = .d (.c (.int .i64 8)) ∧ s.tm 11 = .d (.c (.int .i64 2)) ∧ s.tm 12 = .d (.c (.int .i64 4)) ∧ s.tm 10 = .sl 32 1 0 (cat (blf l big) i).length ∧ s.hp 32 = some (.row 1 (li .u8 (cat (blf l big) i)))) (fun s => l.length - (avN (s.tm 40)).toNat) ?_ ?_
  · refine ⟨0, Nat.zero_le _, ?_⟩
    simp -dsimp -implicitDefEqProofs (disch := first | omega | (simp only [List.length_append, List.length_cons, List.length_nil, List.length_take, List.length_drop]; omega)) only [cat, Int.natCast_zero, ↓aPre, aPost, oneW, allOne, retV, retVA, simprocAttr]
  rintro s ⟨i, hi, hs⟩
  by_cases hlt : i < l.length
  · obtain ⟨hv, hvb⟩ := vN_eq hU hlt
    obtain ⟨v, hvn⟩ : ∃ v, v = vN l i := ⟨_, rfl⟩
    rw [← hvn] at hv hvb
    have hcl : (cat (blf l big) i).length ≤ 524288 := by
      rw [cat_len (blf_len l big)]
      exact Nat.le_trans (Nat.mul_le_mul (show i ≤ 65536 by omega) (show 8 ≤ 8 by omega)) (by decide)
    have hsh : (1 : Int) = 1 := rfl
    have hsh32 : (v : Int).fdiv (2 ^ min 32 IntKind.u64.bits) = ((v / 4294967296 : Nat) : Int) := by
      rw [show min 32 IntKind.u64.bits = 32 from by decide, show (2 : Int) ^ 32 = 4294967296 from rfl, Int.fdiv_eq_ediv_of_nonneg _ (by decide)]; omega
    have hsh0 : (v : Int).fdiv (2 ^ min 0 IntKind.u64.bits) = (v : Int) := by
      rw [show min 0 IntKind.u64.bits = 0 from by decide, show (2 : Int) ^ 0 = 1 from rfl, Int.fdiv_eq_ediv_of_nonneg _ (by decide)]; omega
    simp -dsimp -implicitDefEqProofs (disch := first | omega | (simp only [List.length_append, List.length_cons, List.length_nil, List.length_take, List.length_drop]; omega)) only [hs, hv, hsh, Int.natCast_zero, ↓aPre, aPost, oneW, allOne, retV, retVA, simprocAttr]
    refine loop_of (fun s => s.tm 53 = .d (.c (.int .i64 2)) ∧ s.tm 40 = .d (.c (.int .i64 i)) ∧ s.tm 14 = .d (.c (.int .u64 v)) ∧ (s.tm 39 = .d (.c (.int .i64 l.length)) ∧ s.tm 38 = .d (.lst 1 (li .u64 l)) ∧ s.tm 2 = .d (.c (.bool big)) ∧ s.tm 8 = .d (.c (.int .i64 8)) ∧ s.tm 11 = .d (.c (.int .i64 2)) ∧ s.tm 12 = .d (.c (.int .i64 4))) ∧ ((s.tm 54 = .d (.c (.int .i64 0)) ∧ s.tm 10 = .sl 32 1 0 (cat (blf l big) i).length ∧ s.hp 32 = some (.row 1 (li .u8 (cat (blf l big) i)))) ∨ (s.tm 54 = .d (.c (.int .i64 1)) ∧ s.tm 10 = .sl 32 1 0 (cat (blf l big) i ++ putL (v / 4294967296) 4 big).length ∧ s.hp 32 = some (.row 1 (li .u8 (cat (blf l big) i ++ putL (v / 4294967296) 4 big)))) ∨ (s.tm 54 = .d (.c (.int .i64 2)) ∧ s.tm 10 = .sl 32 1 0 (cat (blf l big) i ++ putL (v / 4294967296) 4 big ++ putL (v % 4294967296) 4 big).length ∧ s.hp 32 = some (.row 1 (li .u8 (cat (blf l big) i ++ putL (v / 4294967296) 4 big ++ putL (v % 4294967296) 4 big)))))) (fun s => 3 - (avN (s.tm 54)).toNat) ?_ ?_
    · refine ⟨?_, ?_, ?_, ?_, .inl ⟨?_, ?_, ?_⟩⟩
      all_goals
        simp -dsimp -implicitDefEqProofs (disch := first | omega | (simp only [List.length_append, List.length_cons, List.length_nil, List.length_take, List.length_drop]; omega)) only [hs, hv, hsh, Int.natCast_zero, ↓aPre, aPost, oneW, allOne, retV, retVA, simprocAttr]
    rintro s2 ⟨k53, k40, k14, kb, kk⟩
    rcases kk with ⟨k54, kp⟩ | ⟨k54, kp⟩ | ⟨k54, kp⟩
    · have hg := put_t (v / 4294967296) 4 big (.inr (.inr (.inl rfl))) (by omega) (by omega)
      rw [show ((4 : Nat) : Int) = 4 from rfl] at hg
      have pl := putL_len (v / 4294967296) 4 big
      have hm := and_32 (v / 4294967296) (by omega)
      rw [Nat.mod_eq_of_lt (show v / 4294967296 < 4294967296 by omega)] at hm
      have hk : (v : Int).fdiv (2 ^ min 32 IntKind.u64.bits) = ((v / 4294967296 : Nat) : Int) := hsh32
      simp -dsimp -implicitDefEqProofs (disch := first | omega | (simp only [List.length_append, List.length_cons, List.length_nil, List.length_take, List.length_drop]; omega)) only [k53, k40, k14, kb, k54, kp, hm, hk, List.length_append, pl, ↓aPre, aPost, oneW, allOne, retV, retVA, simprocAttr]
      refine call_giv hg ?_
      simp -dsimp -implicitDefEqProofs (disch := first | omega | (simp only [List.length_append, List.length_cons, List.length_nil, List.length_take, List.length_drop]; omega)) only [k53, k40, k14, kb, k54, kp, hm, hk, List.length_append, pl, ↓aPre, aPost, oneW, allOne, retV, retVA, simprocAttr]
      refine round_of ⟨?_, ?_, ?_, ?_, (.inr (.inl ⟨?_, ?_, ?_⟩))⟩ ?_
      all_goals
        simp -dsimp -implicitDefEqProofs (disch := first | omega | (simp only [List.length_append, List.length_cons, List.length_nil, List.length_take, List.length_drop]; omega)) only [k53, k40, k14, kb, k54, kp, hm, hk, List.length_append, pl, ↓aPre, aPost, oneW, allOne, retV, retVA, simprocAttr]
    · have hg := put_t (v % 4294967296) 4 big (.inr (.inr (.inl rfl))) (by omega) (by omega)
      rw [show ((4 : Nat) : Int) = 4 from rfl] at hg
      have pl := putL_len (v % 4294967296) 4 big
      have pl0 := putL_len (v / 4294967296) 4 big
      have hm := and_32 v hvb
      have hk : (v : Int).fdiv (2 ^ min 0 IntKind.u64.bits) = (v : Int) := hsh0
      simp -dsimp -implicitDefEqProofs (disch := first | omega | (simp only [List.length_append, List.length_cons, List.length_nil, List.length_take, List.length_drop]; omega)) only [k53, k40, k14, kb, k54, kp, hm, hk, List.length_append, pl, pl0, ↓aPre, aPost, oneW, allOne, retV, retVA, simprocAttr]
      refine call_giv hg ?_
      simp -dsimp -implicitDefEqProofs (disch := first | omega | (simp only [List.length_append, List.length_cons, List.length_nil, List.length_take, List.length_drop]; omega)) only [k53, k40, k14, kb, k54, kp, hm, hk, List.length_append, pl, pl0, ↓aPre, aPost, oneW, allOne, retV, retVA, simprocAttr]
      refine round_of ⟨?_, ?_, ?_, ?_, (.inr (.inr ⟨?_, ?_, ?_⟩))⟩ ?_
      all_goals
        simp -dsimp -implicitDefEqProofs (disch := first | omega | (simp only [List.length_append, List.length_cons, List.length_nil, List.length_take, List.length_drop]; omega)) only [k53, k40, k14, kb, k54, kp, hm, hk, List.length_append, pl, pl0, ↓aPre, aPost, oneW, allOne, retV, retVA, simprocAttr]
    · have hc : cat (blf l big) (i + 1) = cat (blf l big) i ++ putL (v / 4294967296) 4 big ++ putL (v % 4294967296) 4 big := by rw [cat, blf, ← hvn, List.append_assoc]
      rw [← hc] at kp
      simp -dsimp -implicitDefEqProofs (disch := first | omega | (simp only [List.length_append, List.length_cons, List.length_nil, List.length_take, List.length_drop]; omega)) only [k53, k40, k14, kb, k54, kp, ↓aPre, aPost, oneW, allOne, retV, retVA, simprocAttr]
      refine round_of ⟨i + 1, by omega, ?_⟩ ?_
      · simp -dsimp -implicitDefEqProofs (disch := first | omega | (simp only [List.length_append, List.length_cons, List.length_nil, List.length_take, List.length_drop]; omega)) only [k53, k40, k14, kb, k54, kp, ↓aPre, aPost, oneW, allOne, retV, retVA, simprocAttr]
      · simp -dsimp -implicitDefEqProofs (disch := first | omega | (simp only [List.length_append, List.length_cons, List.length_nil, List.length_take, List.length_drop]; omega)) only [k53, k40, k14, kb, k54, kp, hs, ↓aPre, aPost, oneW, allOne, retV, retVA, simprocAttr]
        omega
  · obtain rfl : i = l.length := by omega
    simp -dsimp -implicitDefEqProofs (disch := first | omega | (simp only [List.length_append, List.length_cons, List.length_nil, List.length_take, List.length_drop]; omega)) only [hs, ↓aPre, aPost, oneW, allOne, retV, retVA, simprocAttr]
    exact post_eq rfl
theorem write_e9 {k : Int} (h : ¬ knownP k) (l : List Int) (big : Bool) : Giv Try.prog 32 [.lst 1 (li .u64 l), .c (.int .i64 k), .c (.bool big)] (retV [.lst 1 (li .u8 []), .c (.int .i64 9)]) := by
  refine Giv.of mixed c32 (Nat.le_of_ble_eq_true rfl) ?_
  simp -dsimp -implicitDefEqProofs (disch := first | omega | (simp only [List.length_append, List.length_cons, List.length_nil, List.length_take, List.length_drop]; omega)) only [a32, ↓aPre, aPost, oneW, allOne, retV, retVA, simprocAttr]
  refine call_giv (size_f h) ?_
  simp -dsimp -implicitDefEqProofs (disch := first | omega | (simp only [List.length_append, List.length_cons, List.length_nil, List.length_take, List.length_drop]; omega)) only [↓aPre, aPost, oneW, allOne, retV, retVA, simprocAttr]
  exact post_le (by repeat (first | exact leD.nil | exact leE.refl _ | exact leE.nil _ | refine leD.cons ?_ ?_ | refine leE.agg ?_))
end Go.Proofs.Ytkdkhngdilhneaa

/- The reference's bytes of values, of any type. No condition but what each says. -/
import Derived.Test.YtkdkhngdilhneaaWFWr
set_option linter.unusedSimpArgs false
set_option linter.unusedVariables false
set_option maxRecDepth 8000
set_option maxHeartbeats 4000000
namespace Go.Proofs.Ytkdkhngdilhneaa
open Go.Eng Go.RowKit
theorem rput_ok {v n : Nat} (big : Bool) (hn : sizedP n) (hv2 : v < 18446744073709551616) (h : v < 256 ^ n) : Giv Try.prog 29 [.c (.int .u64 v), .c (.int .i64 n), .c (.bool big)] (retV [.c (.string (strOfNums (putL v n big))), .c (.int .i64 0)]) :=
  rput_any v n big hn hv2 _ (fun _ => rfl) (fun g => absurd h g)
theorem rput_no {v n : Nat} (big : Bool) (hn : sizedP n) (hv2 : v < 18446744073709551616) (h : ¬ v < 256 ^ n) : Giv Try.prog 29 [.c (.int .u64 v), .c (.int .i64 n), .c (.bool big)] (retV [.c (.string (strOfNums [])), .c (.int .i64 7)]) :=
  rput_any v n big hn hv2 _ (fun g => absurd g h) (fun _ => rfl)
theorem rwrite_1 (kind : Int) (z : Nat) (hz : sizedP z) (hsz : Giv Try.prog 38 [.c (.int .i64 kind)] (retV [.c (.int .i64 z)])) (hp : Giv Try.prog 53 [.c (.int .i64 kind)] (retV [.c (.bool false)])) (l : List Int) (big : Bool) (hl : l.length ≤ 65536) (hU : U64 l) (out : List D) (h1 : fitsP z l → out = [.c (.string (strOfNums (cat (bl1 z l big) l.length))), .c (.int .i64 0)]) (h2 : ¬ fitsP z l → out = [.c (.string (strOfNums [])), .c (.int .i64 7)]) :
    Giv Try.prog 35 [.lst 1 (li .u64 l), .c (.int .i64 kind), .c (.bool big)] (retV out) := by
  refine Giv.of mixed c35 (Nat.le_of_ble_eq_true rfl) ?_
  have hz8 : 1 ≤ z ∧ z ≤ 8 := by unfold sizedP at hz; omega
  have hz0 : ¬ (z : Int) = 0 := by omega
  simp -dsimp -implicitDefEqProofs (disch := first | omega | (simp only [List.length_append, List.length_cons, List.length_nil, List.length_take, List.length_drop]; omega)) only [a35, ↓aPre, aPost, oneW, allOne, retV, retVA, simprocAttr]
  refine call_giv hsz ?_
  simp -dsimp -implicitDefEqProofs (disch := first | omega | (simp only [List.length_append, List.length_cons, List.length_nil, List.length_take, List.length_drop]; omega)) only [ibeq_f hz0, hz0, ↓aPre, aPost, oneW, allOne, retV, retVA, simprocAttr]
  refine loop_of (fun s => ∃ (i : Nat), i ≤ l.length ∧ (∀ j, j < i → vN l j < 256 ^ z) ∧ s.tm 10 = .d (.c (.int .i64 i)) ∧ s.tm 0 = .d (.lst 1 (li .u64 l)) ∧ s.tm 1 = .d (.c (.int .i64 kind)) ∧ s.tm 2 = .d (.c (.bool big)) ∧ s.tm 8 = .d (.c (.int .i64 z)) ∧ s.tm 9 = .d (.c (.string (strOfNums (cat (bl1 z l big) i))))) (fun s => l.length - (avN (s.tm 10)).toNat) ?_ ?_
  · refine ⟨0, Nat.zero_le _, fun j h => absurd h (Nat.not_lt_zero _), ?_⟩
    simp -dsimp -implicitDefEqProofs (disch := first | omega | (simp only [List.length_append, List.length_cons, List.length_nil, List.length_take, List.length_drop]; omega)) only [cat, Int.natCast_zero, ↓aPre, aPost, oneW, allOne, retV, retVA, simprocAttr]
  rintro s ⟨i, hi, hf, hs⟩
  by_cases hlt : i < l.length
  · obtain ⟨hv, hvb⟩ := vN_eq hU hlt
    obtain ⟨v, hvn⟩ : ∃ v, v = vN l i := ⟨_, rfl⟩
    rw [← hvn] at hv hvb
    have hcl : (cat (bl1 z l big) i).length ≤ 524288 := by
      rw [cat_len (bl1_len z l big)]
      exact Nat.le_trans (Nat.mul_le_mul (show i ≤ 65536 by omega) (show z ≤ 8 by omega)) (by decide)
    simp -dsimp -implicitDefEqProofs (disch := first | omega | (simp only [List.length_append, List.length_cons, List.length_nil, List.length_take, List.length_drop]; omega)) only [hs, hv, ↓aPre, aPost, oneW, allOne, retV, retVA, simprocAttr]
    refine call_giv hp ?_
    simp -dsimp -implicitDefEqProofs (disch := first | omega | (simp only [List.length_append, List.length_cons, List.length_nil, List.length_take, List.length_drop]; omega)) only [hs, hv, ↓aPre, aPost, oneW, allOne, retV, retVA, simprocAttr]
    by_cases hfit : v < 256 ^ z
    · have hf' : ∀ j, j < i + 1 → vN l j < 256 ^ z := fun j hj => by
        by_cases h : j = i
        · rw [h, ← hvn]; exact hfit
        · exact hf j (by omega)
      have pl := putL_len v z big
      have hc : cat (bl1 z l big) (i + 1) = cat (bl1 z l big) i ++ putL v z big := by rw [cat, bl1, ← hvn]
      refine call_giv (rput_ok big hz hvb hfit) ?_
      simp -dsimp -implicitDefEqProofs (disch := first | omega | (simp only [List.length_append, List.length_cons, List.length_nil, List.length_take, List.length_drop]; omega)) only [hs, hv, pl, ↓aPre, aPost, oneW, allOne, retV, retVA, simprocAttr]
      refine round_of ⟨i + 1, by omega, hf', ?_⟩ ?_
      · simp -dsimp -implicitDefEqProofs (disch := first | omega | (simp only [List.length_append, List.length_cons, List.length_nil, List.length_take, List.length_drop]; omega)) only [hs, hv, pl, hc, ↓aPre, aPost, oneW, allOne, retV, retVA, simprocAttr]
      · simp -dsimp -implicitDefEqProofs (disch := first | omega | (simp only [List.length_append, List.length_cons, List.length_nil, List.length_take, List.length_drop]; omega)) only [hs, ↓aPre, aPost, oneW, allOne, retV, retVA, simprocAttr]
        omega
    · rw [h2 (fun h => hfit (by rw [hvn]; exact h i hlt))]
      refine call_giv (rput_no big hz hvb hfit) ?_
      simp -dsimp -implicitDefEqProofs (disch := first | omega | (simp only [List.length_append, List.length_cons, List.length_nil, List.length_take, List.length_drop]; omega)) only [hs, hv, ↓aPre, aPost, oneW, allOne, retV, retVA, simprocAttr]
      exact post_eq rfl
  · obtain rfl : i = l.length := by omega
    rw [h1 hf]
    simp -dsimp -implicitDefEqProofs (disch := first | omega | (simp only [List.length_append, List.length_cons, List.length_nil, List.length_take, List.length_drop]; omega)) only [hs, ↓aPre, aPost, oneW, allOne, retV, retVA, simprocAttr]
    exact post_eq rfl
theorem rwrite_f (kind : Int) (hsz : Giv Try.prog 38 [.c (.int .i64 kind)] (retV [.c (.int .i64 8)])) (hp : Giv Try.prog 53 [.c (.int .i64 kind)] (retV [.c (.bool true)])) (l : List Int) (big : Bool) (hl : l.length ≤ 65536) (hU : U64 l) :
    Giv Try.prog 35 [.lst 1 (li .u64 l), .c (.int .i64 kind), .c (.bool big)] (retV [.c (.string (strOfNums (cat (blf l big) l.length))), .c (.int .i64 0)]) := by
  refine Giv.of mixed c35 (Nat.le_of_ble_eq_true rfl) ?_
  simp -dsimp -implicitDefEqProofs (disch := first | omega | (simp only [List.length_append, List.length_cons, List.length_nil, List.length_take, List.length_drop]; omega)) only [a35, ↓aPre, aPost, oneW, allOne, retV, retVA, simprocAttr]
  refine call_giv hsz ?_
  simp -dsimp -implicitDefEqProofs (disch := first | omega | (simp only [List.length_append, List.length_cons, List.length_nil, List.length_take, List.length_drop]; omega)) only [↓aPre, aPost, oneW, allOne, retV, retVA, simprocAttr]
  refine loop_of (fun s => ∃ (i : Nat), i ≤ l.length ∧ s.tm 10 = .d (.c (.int .i64 i)) ∧ s.tm 0 = .d (.lst 1 (li .u64 l)) ∧ s.tm 1 = .d (.c (.int .i64 kind)) ∧ s.tm 2 = .d (.c (.bool big)) ∧ s.tm 8 = .d (.c (.int .i64 8)) ∧ s.tm 9 = .d (.c (.string (strOfNums (cat (blf l big) i))))) (fun s => l.length - (avN (s.tm 10)).toNat) ?_ ?_
  · refine ⟨0, Nat.zero_le _, ?_⟩
    simp -dsimp -implicitDefEqProofs (disch := first | omega | (simp only [List.length_append, List.length_cons, List.length_nil, List.length_take, List.length_drop]; omega)) only [cat, Int.natCast_zero, ↓aPre, aPost, oneW, allOne, retV, retVA, simprocAttr]
  rintro s ⟨i, hi, hs⟩
  by_cases hlt : i < l.length
  · obtain ⟨hv, hvb⟩ := vN_eq hU hlt
    obtain ⟨v, hvn⟩ : ∃ v, v = vN l i := ⟨_, rfl⟩
    rw [← hvn] at hv hvb
    have hcl : (cat (blf l big) i).length ≤ 524288 := by
      rw [cat_len (blf_len l big)]
      exact Nat.le_trans (Nat.mul_le_mul (show i ≤ 65536 by omega) (show 8 ≤ 8 by omega)) (by decide)
    obtain ⟨a, ha⟩ : ∃ a, a = v / 4294967296 := ⟨_, rfl⟩
    obtain ⟨b, hb⟩ : ∃ b, b = v % 4294967296 := ⟨_, rfl⟩
    have had : (v : Int) / 4294967296 = (a : Int) := by omega
    have hbd : (v : Int) % 4294967296 = (b : Int) := by omega
    have pa := putL_len a 4 big
    have pb := putL_len b 4 big
    have hga := rput_ok (v := a) (n := 4) big (.inr (.inr (.inl rfl))) (by omega) (by omega)
    have hgb := rput_ok (v := b) (n := 4) big (.inr (.inr (.inl rfl))) (by omega) (by omega)
    rw [show ((4 : Nat) : Int) = 4 from rfl] at hga hgb
    have hc : cat (blf l big) (i + 1) = cat (blf l big) i ++ (putL a 4 big ++ putL b 4 big) := by rw [cat, blf, ← hvn, ← ha, ← hb]
    simp -dsimp -implicitDefEqProofs (disch := first | omega | (simp only [List.length_append, List.length_cons, List.length_nil, List.length_take, List.length_drop]; omega)) only [hs, hv, ↓aPre, aPost, oneW, allOne, retV, retVA, simprocAttr]
    refine call_giv hp ?_
    simp -dsimp -implicitDefEqProofs (disch := first | omega | (simp only [List.length_append, List.length_cons, List.length_nil, List.length_take, List.length_drop]; omega)) only [hs, hv, had, hbd, ↓aPre, aPost, oneW, allOne, retV, retVA, simprocAttr]
    refine call_giv hga ?_
    simp -dsimp -implicitDefEqProofs (disch := first | omega | (simp only [List.length_append, List.length_cons, List.length_nil, List.length_take, List.length_drop]; omega)) only [hs, hv, had, hbd, pa, pb, ↓aPre, aPost, oneW, allOne, retV, retVA, simprocAttr]
    refine call_giv hgb ?_
    simp -dsimp -implicitDefEqProofs (disch := first | omega | (simp only [List.length_append, List.length_cons, List.length_nil, List.length_take, List.length_drop]; omega)) only [hs, hv, had, hbd, pa, pb, List.length_append, ↓aPre, aPost, oneW, allOne, retV, retVA, simprocAttr]
    refine round_of ⟨i + 1, by omega, ?_⟩ ?_
    · simp -dsimp -implicitDefEqProofs (disch := first | omega | (simp only [List.length_append, List.length_cons, List.length_nil, List.length_take, List.length_drop]; omega)) only [hs, hv, had, hbd, pa, pb, List.length_append, hc, List.append_assoc, ↓aPre, aPost, oneW, allOne, retV, retVA, simprocAttr]
    · simp -dsimp -implicitDefEqProofs (disch := first | omega | (simp only [List.length_append, List.length_cons, List.length_nil, List.length_take, List.length_drop]; omega)) only [hs, ↓aPre, aPost, oneW, allOne, retV, retVA, simprocAttr]
      omega
  · obtain rfl : i = l.length := by omega
    simp -dsimp -implicitDefEqProofs (disch := first | omega | (simp only [List.length_append, List.length_cons, List.length_nil, List.length_take, List.length_drop]; omega)) only [hs, ↓aPre, aPost, oneW, allOne, retV, retVA, simprocAttr]
    exact post_eq rfl
theorem rwrite_e9 {k : Int} (h : ¬ knownP k) (l : List Int) (big : Bool) : Giv Try.prog 35 [.lst 1 (li .u64 l), .c (.int .i64 k), .c (.bool big)] (retV [.c (.string (strOfNums [])), .c (.int .i64 9)]) := by
  refine Giv.of mixed c35 (Nat.le_of_ble_eq_true rfl) ?_
  have hs := rsize_giv k
  rw [sz_0 h] at hs
  simp -dsimp -implicitDefEqProofs (disch := first | omega | (simp only [List.length_append, List.length_cons, List.length_nil, List.length_take, List.length_drop]; omega)) only [a35, ↓aPre, aPost, oneW, allOne, retV, retVA, simprocAttr]
  refine call_giv hs ?_
  simp -dsimp -implicitDefEqProofs (disch := first | omega | (simp only [List.length_append, List.length_cons, List.length_nil, List.length_take, List.length_drop]; omega)) only [↓aPre, aPost, oneW, allOne, retV, retVA, simprocAttr]
  exact post_eq rfl
end Go.Proofs.Ytkdkhngdilhneaa

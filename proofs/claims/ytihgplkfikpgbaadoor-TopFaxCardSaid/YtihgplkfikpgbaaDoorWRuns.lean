/- Runs: pixels, right places, changes, lengths, the next place. No condition but what each says. -/
import Derived.Test.YtihgplkfikpgbaaDoorWF
import Derived.Test.YtihgplkfikpgbaaDoorLFx
set_option linter.unusedSimpArgs false
set_option linter.unusedVariables false
set_option maxRecDepth 8000
set_option maxHeartbeats 4000000
namespace Go.Proofs.YtihgplkfikpgbaaDoor
open Go.Eng Go.RowKit
def bitB (row : List Int) (x : Nat) : Bool := decide (row.getD (x / 8) 0 / 2 ^ (7 - x % 8) % 2 = 1)
theorem black_giv (row : List Int) (x : Nat) (hx : x < 8 * row.length) (hl : row.length ≤ 140737488355328) (hb : Bytes row) : Giv Tryd.prog 30 [.lst 1 (li .u8 row), .c (.int .i64 x)] (retV [.c (.bool (bitB row x))]) := by
  refine Giv.of mixed c30 (Nat.le_of_ble_eq_true rfl) ?_
  simp -dsimp -implicitDefEqProofs (disch := first | omega | (simp only [List.length_append, List.length_cons, List.length_nil, List.length_take, List.length_drop]; omega)) only [a30, ↓aPre, aPost, oneW, allOne, retV, retVA, simprocAttr]
  refine post_eq ?_
  have hz := Bytes.get hb (x / 8)
  have e1 : ((x : Int) / 8).toNat = x / 8 := by omega
  have e2 : min (7 - (x : Int) % 8).toNat IntKind.u8.bits = 7 - x % 8 := by simp [IntKind.bits]; omega
  have hq : 0 ≤ row.getD (x / 8) 0 / 2 ^ (7 - x % 8) ∧ row.getD (x / 8) 0 / 2 ^ (7 - x % 8) < 256 :=
    ⟨Int.ediv_nonneg hz.1 (Int.pow_nonneg (by omega)), Int.lt_of_le_of_lt (Int.ediv_le_self _ hz.1) hz.2⟩
  rw [e1, e2, Int.fdiv_eq_ediv_of_nonneg _ (Int.pow_nonneg (by omega)), and1 _ hq.1 hq.2]
  rfl
theorem right_giv (l : List Int) (w : Int) (hl : l.length ≤ 140737488355328) : Giv Tryd.prog 40 [.lst 1 (li .i64 l), .c (.int .i64 w)] (retV [.c (.bool (rightW w l (-1)))]) := by
  refine Giv.of mixed c40 (Nat.le_of_ble_eq_true rfl) ?_
  simp -dsimp -implicitDefEqProofs (disch := first | omega | (simp only [List.length_append, List.length_cons, List.length_nil, List.length_take, List.length_drop]; omega)) only [a40, ↓aPre, aPost, oneW, allOne, retV, retVA, simprocAttr]
  refine loop_of (fun s => ∃ (k : Nat) (y : Int), k ≤ l.length ∧ s.tm 10 = .d (.c (.int .i64 k)) ∧ s.tm 5 = .d (.c (.int .i64 y)) ∧ s.tm 8 = .d (.lst 1 (li .i64 l)) ∧ s.tm 9 = .d (.c (.int .i64 l.length)) ∧ s.tm 1 = .d (.c (.int .i64 w)) ∧ rightW w (l.drop k) y = rightW w l (-1)) (fun s => l.length - (avN (s.tm 10)).toNat) ?_ ?_
  · refine ⟨0, -1, Nat.zero_le _, ?_⟩
    simp -dsimp -implicitDefEqProofs (disch := first | omega | (simp only [List.length_append, List.length_cons, List.length_nil, List.length_take, List.length_drop]; omega)) only [List.drop_zero, Int.natCast_zero, ↓aPre, aPost, oneW, allOne, retV, retVA, simprocAttr]
  rintro s ⟨k, y, hk, h10, h5, h8, h9, h1, hR⟩
  by_cases hlt : k < l.length
  · have hd := drop_at hlt
    rw [hd, rightW] at hR
    by_cases c1 : y < l.getD k 0
    · by_cases c2 : l.getD k 0 < w
      · simp -dsimp -implicitDefEqProofs (disch := first | omega | (simp only [List.length_append, List.length_cons, List.length_nil, List.length_take, List.length_drop]; omega)) only [h10, h5, h8, h9, h1, ↓aPre, aPost, oneW, allOne, retV, retVA, simprocAttr]
        refine round_of ⟨k + 1, l.getD k 0, by omega, ?_⟩ ?_
        · simp -dsimp -implicitDefEqProofs (disch := first | omega | (simp only [List.length_append, List.length_cons, List.length_nil, List.length_take, List.length_drop]; omega)) only [h10, h5, h8, h9, h1, ↓aPre, aPost, oneW, allOne, retV, retVA, simprocAttr]
          rw [← hR, decide_eq_true ⟨c1, c2⟩, Bool.true_and]
        · simp -dsimp -implicitDefEqProofs (disch := first | omega | (simp only [List.length_append, List.length_cons, List.length_nil, List.length_take, List.length_drop]; omega)) only [h10, ↓aPre, aPost, oneW, allOne, retV, retVA, simprocAttr]
          omega
      · simp -dsimp -implicitDefEqProofs (disch := first | omega | (simp only [List.length_append, List.length_cons, List.length_nil, List.length_take, List.length_drop]; omega)) only [h10, h5, h8, h9, h1, ↓aPre, aPost, oneW, allOne, retV, retVA, simprocAttr]
        refine post_eq ?_
        rw [← hR, decide_eq_false (fun h => c2 h.2), Bool.false_and]
    · simp -dsimp -implicitDefEqProofs (disch := first | omega | (simp only [List.length_append, List.length_cons, List.length_nil, List.length_take, List.length_drop]; omega)) only [h10, h5, h8, h9, h1, ↓aPre, aPost, oneW, allOne, retV, retVA, simprocAttr]
      refine post_eq ?_
      rw [← hR, decide_eq_false (fun h => c1 h.1), Bool.false_and]
  · simp -dsimp -implicitDefEqProofs (disch := first | omega | (simp only [List.length_append, List.length_cons, List.length_nil, List.length_take, List.length_drop]; omega)) only [h10, h5, h8, h9, h1, ↓aPre, aPost, oneW, allOne, retV, retVA, simprocAttr]
    obtain rfl : k = l.length := by omega
    refine post_eq ?_
    rw [← hR, List.drop_length]; rfl
def togL (l : List Int) (x : Int) : List Int := if 0 < l.length ∧ l.getD (l.length - 1) 0 = x then l.take (l.length - 1) else l ++ [x]
theorem toggle_giv (l : List Int) (x : Int) (hl : (l.length + 1) * 8 ≤ 140737488355328) : Giv Tryd.prog 44 [.lst 1 (li .i64 l), .c (.int .i64 x)] (retV [.lst 1 (li .i64 (togL l x))]) := by
  refine Giv.of mixed c44 (Nat.le_of_ble_eq_true rfl) ?_
  by_cases h0 : 0 < l.length
  · have e : ((l.length : Int) - 1).toNat = l.length - 1 := by omega
    by_cases hx : l.getD (l.length - 1) 0 = x
    · simp -dsimp -implicitDefEqProofs (disch := first | omega | (simp only [List.length_append, List.length_cons, List.length_nil, List.length_take, List.length_drop]; omega)) only [a44, e, ↓aPre, aPost, oneW, allOne, retV, retVA, simprocAttr]
      refine post_eq ?_
      rw [togL, if_pos ⟨h0, hx⟩]
    · simp -dsimp -implicitDefEqProofs (disch := first | omega | (simp only [List.length_append, List.length_cons, List.length_nil, List.length_take, List.length_drop]; omega)) only [a44, e, ↓aPre, aPost, oneW, allOne, retV, retVA, simprocAttr]
      refine post_eq ?_
      rw [togL, if_neg fun h => hx h.2]
  · simp -dsimp -implicitDefEqProofs (disch := first | omega | (simp only [List.length_append, List.length_cons, List.length_nil, List.length_take, List.length_drop]; omega)) only [a44, ↓aPre, aPost, oneW, allOne, retV, retVA, simprocAttr]
    refine post_eq ?_
    rw [togL, if_neg fun h => h0 h.1]
theorem rightW_bound (w : Int) : ∀ (l : List Int) (y : Int), rightW w l y = true → ∀ z ∈ l, y < z ∧ z < w
  | [], _, _, z, hz => by cases hz
  | x :: l, y, h, z, hz => by
    simp only [rightW, Bool.and_eq_true, decide_eq_true_eq] at h
    rcases List.mem_cons.1 hz with rfl | hz
    · exact h.1
    · have := rightW_bound w l x h.2 z hz
      omega
def wasK (m : List Int) : Nat → Int
  | 0 => 0
  | k + 1 => m.getD k 0
def lenK (m : List Int) : Nat → List Int
  | 0 => []
  | k + 1 => lenK m k ++ [m.getD k 0 - wasK m k]
theorem lenK_len (m : List Int) : ∀ k, (lenK m k).length = k
  | 0 => rfl
  | k + 1 => by rw [lenK, List.length_append, lenK_len m k]; rfl
theorem get_bound {l : List Int} {a b : Int} (h : ∀ z ∈ l, a ≤ z ∧ z ≤ b) (h0 : a ≤ 0 ∧ 0 ≤ b) (k : Nat) : a ≤ l.getD k 0 ∧ l.getD k 0 ≤ b := by
  by_cases hi : k < l.length
  · simp only [List.getD, List.getElem?_eq_getElem hi, Option.getD_some]
    exact h _ (List.getElem_mem _)
  · simpa [List.getD, List.getElem?_eq_none (Nat.le_of_not_lt hi)] using h0
theorem was_bound {m : List Int} (h : ∀ z ∈ m, 0 ≤ z ∧ z ≤ 32768) : ∀ k, 0 ≤ wasK m k ∧ wasK m k ≤ 32768
  | 0 => by simp [wasK]
  | k + 1 => by rw [wasK]; exact get_bound h (by omega) k
def bad (l : List Int) (w : Int) : Prop := w < 0 ∨ 32768 < w ∨ rightW w l (-1) = false
instance (l : List Int) (w : Int) : Decidable (bad l w) := by unfold bad; infer_instance
def lengthsD (l : List Int) (w : Int) : List D := if bad l w then [.lst 1 [], .c (.int .i64 1)] else [.lst 1 (li .i64 (lenK (l ++ [w]) (l.length + 1))), .c (.int .i64 0)]
theorem lengths_giv (l : List Int) (w : Int) (hl : (l.length + 1) * 8 ≤ 140737488355328) : Giv Tryd.prog 35 [.lst 1 (li .i64 l), .c (.int .i64 w)] (retV (lengthsD l w)) := by
  refine Giv.of mixed c35 (Nat.le_of_ble_eq_true rfl) ?_
  by_cases h1 : w < 0
  · simp -dsimp -implicitDefEqProofs (disch := first | omega | (simp only [List.length_append, List.length_cons, List.length_nil, List.length_take, List.length_drop]; omega)) only [a35, ↓aPre, aPost, oneW, allOne, retV, retVA, simprocAttr]
    rw [lengthsD, if_pos (.inl h1)]
    exact post_nil (leD_refl _)
  by_cases h2 : 32768 < w
  · simp -dsimp -implicitDefEqProofs (disch := first | omega | (simp only [List.length_append, List.length_cons, List.length_nil, List.length_take, List.length_drop]; omega)) only [a35, ↓aPre, aPost, oneW, allOne, retV, retVA, simprocAttr]
    rw [lengthsD, if_pos (.inr (.inl h2))]
    exact post_nil (leD_refl _)
  simp -dsimp -implicitDefEqProofs (disch := first | omega | (simp only [List.length_append, List.length_cons, List.length_nil, List.length_take, List.length_drop]; omega)) only [a35, ↓aPre, aPost, oneW, allOne, retV, retVA, simprocAttr]
  refine call_giv (right_giv l w (by omega)) ?_
  cases h3 : rightW w l (-1) with
  | false =>
    simp -dsimp -implicitDefEqProofs (disch := first | omega | (simp only [List.length_append, List.length_cons, List.length_nil, List.length_take, List.length_drop]; omega)) only [↓aPre, aPost, oneW, allOne, retV, retVA, simprocAttr]
    rw [lengthsD, if_pos (.inr (.inr h3))]
    exact post_nil (leD_refl _)
  | true =>
    have hbd : ∀ z ∈ l ++ [w], 0 ≤ z ∧ z ≤ 32768 := by
      intro z hz
      rcases List.mem_append.1 hz with hz | hz
      · have := rightW_bound w l _ h3 z hz; omega
      · have := List.mem_singleton.1 hz; omega
    have hm : (l ++ [w]).length = l.length + 1 := by simp
    rw [lengthsD, if_neg (by rintro (h | h | h) <;> first | omega | (rw [h3] at h; cases h))]
    simp -dsimp -implicitDefEqProofs (disch := first | omega | (simp only [List.length_append, List.length_cons, List.length_nil, List.length_take, List.length_drop]; omega)) only [↓aPre, aPost, oneW, allOne, retV, retVA, simprocAttr]
    refine loop_nil 6 100 1 (fun s => ∃ (k : Nat), k ≤ l.length + 1 ∧ s.tm 29 = .d (.c (.int .i64 k)) ∧ s.tm 28 = .d (.c (.int .i64 (l.length + 1 : Nat))) ∧ s.tm 27 = .sl 22 1 0 (l.length + 1) ∧ s.hp 22 = some (.row 1 (li .i64 (l ++ [w]))) ∧ s.tm 6 = .sl 100 1 0 k ∧ s.hp 100 = some (.row 1 (li .i64 (lenK (l ++ [w]) k))) ∧ s.tm 7 = .d (.c (.int .i64 (wasK (l ++ [w]) k)))) (fun s => l.length + 1 - (avN (s.tm 29)).toNat) ?_ (by decide) ?_ ?_
    · simp -dsimp -implicitDefEqProofs (disch := first | omega | (simp only [List.length_append, List.length_cons, List.length_nil, List.length_take, List.length_drop]; omega)) only [↓aPre, aPost, oneW, allOne, retV, retVA, simprocAttr]
    · refine ⟨0, Nat.zero_le _, ?_⟩
      simp -dsimp -implicitDefEqProofs (disch := first | omega | (simp only [List.length_append, List.length_cons, List.length_nil, List.length_take, List.length_drop]; omega)) only [lenK, wasK, Int.natCast_zero, ↓aPre, aPost, oneW, allOne, retV, retVA, simprocAttr]
    rintro s ⟨k, hk, hs⟩
    have hb1 := get_bound hbd (by omega) k
    have hb2 := was_bound hbd k
    have e := lenK_len (l ++ [w]) k
    by_cases hlt : k < l.length + 1
    · simp -dsimp -implicitDefEqProofs (disch := first | omega | (simp only [List.length_append, List.length_cons, List.length_nil, List.length_take, List.length_drop]; omega)) only [hs, hm, e, ↓aPre, aPost, oneW, allOne, retV, retVA, simprocAttr]
      refine round_of ⟨k + 1, by omega, ?_⟩ ?_
      · simp -dsimp -implicitDefEqProofs (disch := first | omega | (simp only [List.length_append, List.length_cons, List.length_nil, List.length_take, List.length_drop]; omega)) only [hs, e, lenK, wasK, ↓aPre, aPost, oneW, allOne, retV, retVA, simprocAttr]
      · simp -dsimp -implicitDefEqProofs (disch := first | omega | (simp only [List.length_append, List.length_cons, List.length_nil, List.length_take, List.length_drop]; omega)) only [hs, ↓aPre, aPost, oneW, allOne, retV, retVA, simprocAttr]
        omega
    · simp -dsimp -implicitDefEqProofs (disch := first | omega | (simp only [List.length_append, List.length_cons, List.length_nil, List.length_take, List.length_drop]; omega)) only [hs, e, ↓aPre, aPost, oneW, allOne, retV, retVA, simprocAttr]
      obtain rfl : k = l.length + 1 := by omega
      exact post_eq rfl
def ofK (row : List Int) : Nat → List Int
  | 0 => []
  | k + 1 => if bitB row k = decide (((ofK row k).length : Int) % 2 = 1) then ofK row k else ofK row k ++ [(k : Int)]
theorem ofK_len (row : List Int) : ∀ k, (ofK row k).length ≤ k
  | 0 => Nat.le_refl _
  | k + 1 => by
    unfold ofK
    have := ofK_len row k
    split
    · omega
    · simp; omega
def ofD (row : List Int) (w : Int) : List D := if w < 0 ∨ 32768 < w then [.lst 1 [], .c (.int .i64 1)] else if 8 * row.length < w then [.lst 1 [], .c (.int .i64 2)] else [.lst 1 (li .i64 (ofK row w.toNat)), .c (.int .i64 0)]
theorem of_giv (row : List Int) (w : Int) (hl : row.length ≤ 140737488355328) (hb : Bytes row) : Giv Tryd.prog 13 [.lst 1 (li .u8 row), .c (.int .i64 w)] (retV (ofD row w)) := by
  refine Giv.of mixed c13 (Nat.le_of_ble_eq_true rfl) ?_
  by_cases h1 : w < 0
  · simp -dsimp -implicitDefEqProofs (disch := first | omega | (simp only [List.length_append, List.length_cons, List.length_nil, List.length_take, List.length_drop]; omega)) only [a13, ↓aPre, aPost, oneW, allOne, retV, retVA, simprocAttr]
    rw [ofD, if_pos (.inl h1)]
    exact post_nil (leD_refl _)
  by_cases h2 : 32768 < w
  · simp -dsimp -implicitDefEqProofs (disch := first | omega | (simp only [List.length_append, List.length_cons, List.length_nil, List.length_take, List.length_drop]; omega)) only [a13, ↓aPre, aPost, oneW, allOne, retV, retVA, simprocAttr]
    rw [ofD, if_pos (.inr h2)]
    exact post_nil (leD_refl _)
  obtain ⟨k, rfl⟩ : ∃ k : Nat, w = k := ⟨w.toNat, by omega⟩
  rw [ofD, if_neg (by omega)]
  by_cases h3 : 8 * row.length < (k : Int)
  · simp -dsimp -implicitDefEqProofs (disch := first | omega | (simp only [List.length_append, List.length_cons, List.length_nil, List.length_take, List.length_drop]; omega)) only [a13, ↓aPre, aPost, oneW, allOne, retV, retVA, simprocAttr]
    rw [if_pos h3]
    exact post_nil (leD_refl _)
  rw [if_neg h3]
  simp -dsimp -implicitDefEqProofs (disch := first | omega | (simp only [List.length_append, List.length_cons, List.length_nil, List.length_take, List.length_drop]; omega)) only [a13, ↓aPre, aPost, oneW, allOne, retV, retVA, simprocAttr]
  refine loop_of (fun s => ∃ (x : Nat), x ≤ k ∧ s.tm 24 = .d (.c (.int .i64 x)) ∧ s.tm 23 = .d (.c (.int .i64 k)) ∧ s.tm 0 = .d (.lst 1 (li .u8 row)) ∧ s.tm 6 = .sl 22 1 0 (ofK row x).length ∧ s.hp 22 = some (.row 1 (li .i64 (ofK row x)))) (fun s => k - (avN (s.tm 24)).toNat) ?_ ?_
  · refine ⟨0, Nat.zero_le _, ?_⟩
    simp -dsimp -implicitDefEqProofs (disch := first | omega | (simp only [List.length_append, List.length_cons, List.length_nil, List.length_take, List.length_drop]; omega)) only [ofK, Int.natCast_zero, ↓aPre, aPost, oneW, allOne, retV, retVA, simprocAttr]
  rintro s ⟨x, hx, hs⟩
  have hle := ofK_len row x
  by_cases hlt : x < k
  · simp -dsimp -implicitDefEqProofs (disch := first | omega | (simp only [List.length_append, List.length_cons, List.length_nil, List.length_take, List.length_drop]; omega)) only [hs, ↓aPre, aPost, oneW, allOne, retV, retVA, simprocAttr]
    refine call_giv (black_giv row x (by omega) hl hb) ?_
    by_cases hc : bitB row x = decide (((ofK row x).length : Int) % 2 = 1)
    · have e : ofK row (x + 1) = ofK row x := by rw [ofK, if_pos hc]
      simp -dsimp -implicitDefEqProofs (disch := first | omega | (simp only [List.length_append, List.length_cons, List.length_nil, List.length_take, List.length_drop]; omega)) only [hs, hc, ↓aPre, aPost, oneW, allOne, retV, retVA, simprocAttr]
      refine round_of ⟨x + 1, by omega, ?_⟩ ?_
      · simp -dsimp -implicitDefEqProofs (disch := first | omega | (simp only [List.length_append, List.length_cons, List.length_nil, List.length_take, List.length_drop]; omega)) only [hs, e, ↓aPre, aPost, oneW, allOne, retV, retVA, simprocAttr]
      · simp -dsimp -implicitDefEqProofs (disch := first | omega | (simp only [List.length_append, List.length_cons, List.length_nil, List.length_take, List.length_drop]; omega)) only [hs, ↓aPre, aPost, oneW, allOne, retV, retVA, simprocAttr]
        omega
    · have e : ofK row (x + 1) = ofK row x ++ [(x : Int)] := by rw [ofK, if_neg hc]
      have hc' : (bitB row x == decide (((ofK row x).length : Int) % 2 = 1)) = false := by simpa using hc
      simp -dsimp -implicitDefEqProofs (disch := first | omega | (simp only [List.length_append, List.length_cons, List.length_nil, List.length_take, List.length_drop]; omega)) only [hs, hc', ↓aPre, aPost, oneW, allOne, retV, retVA, simprocAttr]
      refine round_of ⟨x + 1, by omega, ?_⟩ ?_
      · simp -dsimp -implicitDefEqProofs (disch := first | omega | (simp only [List.length_append, List.length_cons, List.length_nil, List.length_take, List.length_drop]; omega)) only [hs, e, ↓aPre, aPost, oneW, allOne, retV, retVA, simprocAttr]
      · simp -dsimp -implicitDefEqProofs (disch := first | omega | (simp only [List.length_append, List.length_cons, List.length_nil, List.length_take, List.length_drop]; omega)) only [hs, ↓aPre, aPost, oneW, allOne, retV, retVA, simprocAttr]
        omega
  · simp -dsimp -implicitDefEqProofs (disch := first | omega | (simp only [List.length_append, List.length_cons, List.length_nil, List.length_take, List.length_drop]; omega)) only [hs, ↓aPre, aPost, oneW, allOne, retV, retVA, simprocAttr]
    obtain rfl : x = k := by omega
    exact post_eq rfl
theorem par (k : Nat) : decide ((k : Int) % 2 = 0) = decide (k % 2 = 0) := by
  simp only [decide_eq_decide]; omega
theorem headD_drop (l : List Int) (w : Int) (k : Nat) : (l.drop k).headD w = if k < l.length then l.getD k 0 else w := by
  split
  · rename_i h; rw [drop_at h]; rfl
  · rename_i h; rw [List.drop_eq_nil_of_le (by omega)]; rfl
def nextD (l : List Int) (fr : Int) (bl : Bool) (w : Int) : List D := [.c (.int .i64 (nxt w fr bl l 0).1), .c (.int .i64 (nxt w fr bl l 0).2)]
theorem next_giv (l : List Int) (fr : Int) (bl : Bool) (w : Int) (hl : l.length ≤ 140737488355328) : Giv Tryd.prog 41 [.lst 1 (li .i64 l), .c (.int .i64 fr), .c (.bool bl), .c (.int .i64 w)] (retV (nextD l fr bl w)) := by
  refine Giv.of mixed c41 (Nat.le_of_ble_eq_true rfl) ?_
  simp -dsimp -implicitDefEqProofs (disch := first | omega | (simp only [List.length_append, List.length_cons, List.length_nil, List.length_take, List.length_drop]; omega)) only [a41, ↓aPre, aPost, oneW, allOne, retV, retVA, simprocAttr]
  refine loop_of (fun s => ∃ (k : Nat), k ≤ l.length ∧ nxt w fr bl (l.drop k) k = nxt w fr bl l 0 ∧ s.tm 14 = .d (.c (.int .i64 k)) ∧ s.tm 12 = .d (.lst 1 (li .i64 l)) ∧ s.tm 13 = .d (.c (.int .i64 l.length)) ∧ s.tm 0 = .d (.lst 1 (li .i64 l)) ∧ s.tm 1 = .d (.c (.int .i64 fr)) ∧ s.tm 2 = .d (.c (.bool bl)) ∧ s.tm 3 = .d (.c (.int .i64 w))) (fun s => l.length - (avN (s.tm 14)).toNat) ?_ ?_
  · refine ⟨0, Nat.zero_le _, rfl, ?_⟩
    simp -dsimp -implicitDefEqProofs (disch := first | omega | (simp only [List.length_append, List.length_cons, List.length_nil, List.length_take, List.length_drop]; omega)) only [Int.natCast_zero, ↓aPre, aPost, oneW, allOne, retV, retVA, simprocAttr]
  rintro s ⟨k, hk, hN, hs⟩
  by_cases hlt : k < l.length
  · rw [drop_at hlt, nxt, headD_drop] at hN
    by_cases c1 : fr < l.getD k 0
    · by_cases c2 : decide (k % 2 = 0) = bl
      · have e1 : (decide (k % 2 = 0) == bl) = true := by rw [c2]; exact beq_self_eq_true _
        rw [if_pos ⟨c1, c2⟩] at hN
        by_cases c3 : k + 1 < l.length
        · have e2 : ((k : Int) + 1).toNat = k + 1 := by omega
          rw [if_pos c3] at hN
          simp -dsimp -implicitDefEqProofs (disch := first | omega | (simp only [List.length_append, List.length_cons, List.length_nil, List.length_take, List.length_drop]; omega)) only [hs, par, e1, e2, ↓aPre, aPost, oneW, allOne, retV, retVA, simprocAttr]
          refine post_eq ?_
          rw [nextD, ← hN]
        · rw [if_neg c3] at hN
          simp -dsimp -implicitDefEqProofs (disch := first | omega | (simp only [List.length_append, List.length_cons, List.length_nil, List.length_take, List.length_drop]; omega)) only [hs, par, e1, ↓aPre, aPost, oneW, allOne, retV, retVA, simprocAttr]
          refine post_eq ?_
          rw [nextD, ← hN]
      · have e1 : (decide (k % 2 = 0) == bl) = false := beq_false_of_ne c2
        rw [if_neg (fun h => c2 h.2)] at hN
        simp -dsimp -implicitDefEqProofs (disch := first | omega | (simp only [List.length_append, List.length_cons, List.length_nil, List.length_take, List.length_drop]; omega)) only [hs, par, e1, ↓aPre, aPost, oneW, allOne, retV, retVA, simprocAttr]
        refine round_of ⟨k + 1, by omega, hN, ?_⟩ ?_
        · simp -dsimp -implicitDefEqProofs (disch := first | omega | (simp only [List.length_append, List.length_cons, List.length_nil, List.length_take, List.length_drop]; omega)) only [hs, ↓aPre, aPost, oneW, allOne, retV, retVA, simprocAttr]
        · simp -dsimp -implicitDefEqProofs (disch := first | omega | (simp only [List.length_append, List.length_cons, List.length_nil, List.length_take, List.length_drop]; omega)) only [hs, ↓aPre, aPost, oneW, allOne, retV, retVA, simprocAttr]
          omega
    · rw [if_neg (fun h => c1 h.1)] at hN
      simp -dsimp -implicitDefEqProofs (disch := first | omega | (simp only [List.length_append, List.length_cons, List.length_nil, List.length_take, List.length_drop]; omega)) only [hs, ↓aPre, aPost, oneW, allOne, retV, retVA, simprocAttr]
      refine round_of ⟨k + 1, by omega, hN, ?_⟩ ?_
      · simp -dsimp -implicitDefEqProofs (disch := first | omega | (simp only [List.length_append, List.length_cons, List.length_nil, List.length_take, List.length_drop]; omega)) only [hs, ↓aPre, aPost, oneW, allOne, retV, retVA, simprocAttr]
      · simp -dsimp -implicitDefEqProofs (disch := first | omega | (simp only [List.length_append, List.length_cons, List.length_nil, List.length_take, List.length_drop]; omega)) only [hs, ↓aPre, aPost, oneW, allOne, retV, retVA, simprocAttr]
        omega
  · simp -dsimp -implicitDefEqProofs (disch := first | omega | (simp only [List.length_append, List.length_cons, List.length_nil, List.length_take, List.length_drop]; omega)) only [hs, ↓aPre, aPost, oneW, allOne, retV, retVA, simprocAttr]
    rw [List.drop_eq_nil_of_le (by omega), nxt] at hN
    refine post_eq ?_
    rw [nextD, ← hN]
theorem rightW_snoc {w z : Int} : ∀ (l : List Int) (y : Int), rightW w l y = true → (∀ x ∈ l, x < z) → y < z → z < w → rightW w (l ++ [z]) y = true
  | [], y, _, _, h1, h2 => by simp [rightW, h1, h2]
  | x :: l, y, h, hx, h1, h2 => by
    simp only [rightW, Bool.and_eq_true] at h
    rw [List.cons_append, rightW, h.1, Bool.true_and]
    exact rightW_snoc l x h.2 (fun x hx' => hx x (by simp [hx'])) (hx x (by simp)) h2
theorem ofK_right (row : List Int) (w : Nat) : ∀ k, k ≤ w → rightW w (ofK row k) (-1) = true ∧ ∀ z ∈ ofK row k, z < (k : Int)
  | 0, _ => ⟨rfl, by simp [ofK]⟩
  | k + 1, hk => by
    obtain ⟨h1, h2⟩ := ofK_right row w k (by omega)
    rw [ofK]
    split
    · exact ⟨h1, fun z hz => by have := h2 z hz; omega⟩
    · refine ⟨rightW_snoc _ _ h1 h2 (by omega) (by omega), fun z hz => ?_⟩
      rcases List.mem_append.1 hz with hz | hz
      · have := h2 z hz; omega
      · have := List.mem_singleton.1 hz; omega
end Go.Proofs.YtihgplkfikpgbaaDoor

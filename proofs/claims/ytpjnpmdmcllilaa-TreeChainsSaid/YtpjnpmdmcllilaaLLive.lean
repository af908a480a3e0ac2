/- The example of the chapter; how many directories there are. No condition but what each says. -/
import Derived.Test.YtpjnpmdmcllilaaWPath
set_option linter.unusedSimpArgs false
set_option linter.unusedVariables false
set_option maxRecDepth 8000
set_option maxHeartbeats 8000000
namespace Go.Proofs.Ytpjnpmdmcllilaa
open Go.Eng Go.RowKit
def ex : List Int := [0, 0, 0, 0, 0, 0, 0, 0, 0, 0, 0, 0, 0, 0]
theorem ex_dir : dirS ex false false 8 = ((8, 0, []), 0) := by decide
theorem ex_walk : walkS ex false false 8 9 9 = ([(0, -1, 8, 0, [])], 0) := by
  have h : W ex false false 9 9 [(8, 0, -1)] ([], []) = (([8], [(0, -1, 8, 0, [])]), 0) := by
    rw [W_eq, if_neg (by decide), if_neg (by simp), if_neg (by decide)]
    dsimp only
    rw [ex_dir, if_neg (by decide), if_neg (by decide), if_neg (by decide)]
    show W ex false false 9 9 [(0, 0, -1)] _ = _
    rw [W_one]
    rfl
  rw [walkS, h]
  rfl
theorem ex_hgs : Hgs [(0, -1, 8, 0, [])] := fun k hk => by
  obtain rfl : k = 0 := by simpa using hk
  exact .inl ⟨rfl, rfl⟩
theorem lives_giv : Giv Try.prog 5 [] (retV [.c (.bool true)]) := by
  have g1 := walk_giv ex false false 8 9 9 (by decide) (fun z hz => by have := List.eq_of_mem_replicate (n := 14) (show z ∈ List.replicate 14 (0 : Int) from hz); omega) (by decide) (by decide)
  rw [ex_walk] at g1
  have g2 := path_giv [(0, -1, 8, 0, [])] (by decide) ex_hgs 0 (by decide)
  rw [show pth [(0, -1, 8, 0, [])] (0 + 1) 0 = [0] by decide] at g2
  obtain ⟨X, hX⟩ : ∃ X, X = ([(0, -1, 8, 0, [])] : List It).map itD := ⟨_, rfl⟩
  have hg : X.getD 0 default = .agg [.c (.int .i64 0), .c (.int .i64 (-1)), .c (.int .u64 8), .c (.int .u64 0), .lst 3 []] := by rw [hX]; rfl
  have hl : X.length = 1 := by rw [hX]; rfl
  dsimp only at g1
  rw [← hX] at g1 g2
  rw [hD] at g1
  refine Giv.of mixed c5 (Nat.le_of_ble_eq_true rfl) ?_
  simp -dsimp -implicitDefEqProofs (disch := first | omega | (simp only [List.length_append, List.length_cons, List.length_nil, List.length_take, List.length_drop]; omega)) only [a5, ↓aPre, aPost, oneW, allOne, retV, retVA, simprocAttr]
  refine call_giv g1 ?_
  simp -dsimp -implicitDefEqProofs (disch := first | omega | (simp only [List.length_append, List.length_cons, List.length_nil, List.length_take, List.length_drop]; omega)) only [↓aPre, aPost, oneW, allOne, retV, retVA, simprocAttr]
  refine call_giv g2 ?_
  simp -dsimp -implicitDefEqProofs (disch := first | omega | (simp only [List.length_append, List.length_cons, List.length_nil, List.length_take, List.length_drop]; omega)) only [hg, hl, ↓aPre, aPost, oneW, allOne, retV, retVA, simprocAttr]
  exact post_eq rfl
/-- what holds of the directories of a file -/
theorem walk_ok (b : List Int) (big large : Bool) (first : Nat) (most deep : Int) (hB : Bytes b) (hf : first < 18446744073709551616) : Hgs (walkS b big large first most deep).1 ∧ (walkS b big large first most deep).1.length ≤ b.length ∧ ∀ it ∈ (walkS b big large first most deep).1, Sml it.2.2 := by
  have hinv := W_inv (big := big) (large := large) (most := most) (deep := deep) hB [(first, 0, -1)] ([], []) (Inv.nil b) (fun t ht => by simp only [List.mem_cons, List.not_mem_nil, or_false] at ht; subst ht; exact ⟨hf, .inl ⟨rfl, rfl⟩⟩)
  unfold walkS
  by_cases h : (W b big large most deep [(first, 0, -1)] ([], [])).2 = 0
  · rw [if_pos h]
    obtain ⟨h1, _⟩ := hinv h
    exact ⟨h1.hg, h1.len.2, h1.sm⟩
  · rw [if_neg h]
    exact ⟨fun k hk => absurd hk (Nat.not_lt_zero _), Nat.zero_le _, fun it h => by cases h⟩
end Go.Proofs.Ytpjnpmdmcllilaa

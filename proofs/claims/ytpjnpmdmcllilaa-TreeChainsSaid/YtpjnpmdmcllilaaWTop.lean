/- All directories of a file, by the program. No condition but what each says. -/
import Derived.Test.YtpjnpmdmcllilaaWTree
set_option linter.unusedSimpArgs false
set_option linter.unusedVariables false
set_option maxRecDepth 8000
set_option maxHeartbeats 16000000
namespace Go.Proofs.Ytpjnpmdmcllilaa
open Go.Eng Go.RowKit
/-- what is to come out: the directories, the error -/
def walkS (b : List Int) (big large : Bool) (first : Nat) (most deep : Int) : List It × Int := if (W b big large most deep [(first, 0, -1)] ([], [])).2 = 0 then ((W b big large most deep [(first, 0, -1)] ([], [])).1.2, 0) else ([], (W b big large most deep [(first, 0, -1)] ([], [])).2)
theorem walk_giv (b : List Int) (big large : Bool) (first : Nat) (most deep : Int) (hl : b.length ≤ 90000) (hB : Bytes b) (hf : first < 18446744073709551616) (hmo : -9223372036854775808 ≤ most ∧ most ≤ 9223372036854775807) :
    Giv Try.prog 6 [.lst 1 (li .u8 b), hD big large first, .c (.int .i64 most), .c (.int .i64 deep)] (retV [.lst 5 ((walkS b big large first most deep).1.map itD), .c (.int .i64 (walkS b big large first most deep).2)]) := by
  have hc := chain11 b big large first most deep hl hB hmo b.length ([], []) first 0 (-1) (Inv.nil b) ⟨hf, .inl ⟨rfl, rfl⟩⟩ (by simp)
  have hinv := W_inv (big := big) (large := large) (most := most) (deep := deep) hB [(first, 0, -1)] ([], []) (Inv.nil b) (fun t ht => by simp only [List.mem_cons, List.not_mem_nil, or_false] at ht; subst ht; exact ⟨hf, .inl ⟨rfl, rfl⟩⟩)
  unfold walkS
  obtain ⟨P, hP⟩ : ∃ P, P = W b big large most deep [(first, 0, -1)] ([], []) := ⟨_, rfl⟩
  rw [← hP] at hc hinv ⊢
  obtain ⟨q, e⟩ := P
  dsimp only at hc hinv ⊢
  refine Giv.of mixed c6 (Nat.le_of_ble_eq_true rfl) ?_
  simp -dsimp -implicitDefEqProofs (disch := first | omega | (simp only [List.length_append, List.length_cons, List.length_nil, List.length_take, List.length_drop]; omega)) only [a6, hD, cellsW_mp_x, ↓aPre, aPost, oneW, allOne, retV, retVA, simprocAttr]
  refine call_mutG (Gh.nilB (m := 18) (i := 7) (n := 100) (es := 5) (cs := [.d (.lst 1 (li .u8 b)), .d (.c (.bool big)), .d (.c (.bool large)), .d (.c (.int .u64 first)), .d (.c (.int .i64 most)), .d (.c (.int .i64 deep)), .mp 16, .d (.c (.slice none 0 0))]) (by decide) (by decide) (by decide) (by simp -dsimp -implicitDefEqProofs (disch := first | omega | (simp only [List.length_append, List.length_cons, List.length_nil, List.length_take, List.length_drop]; omega)) only [↓aPre, aPost, oneW, allOne, retV, retVA, simprocAttr]) rfl) (by simp) hc [(2000000, 18), (2000001, 16), (1000000, 100)] rfl ?_ ?_ ?_
  · rfl
  · simp -dsimp -implicitDefEqProofs (disch := first | omega | (simp only [List.length_append, List.length_cons, List.length_nil, List.length_take, List.length_drop]; omega)) only [smp, ↓aPre, aPost, oneW, allOne, retV, retVA, simprocAttr]
    rfl
  by_cases he : e = 0
  · subst he
    rw [if_pos rfl]
    simp -dsimp -implicitDefEqProofs (disch := first | omega | (simp only [List.length_append, List.length_cons, List.length_nil, List.length_take, List.length_drop]; omega)) only [↓aPre, aPost, oneW, allOne, retV, retVA, simprocAttr]
    exact post_eq (by rw [List.take_of_length_le (by rw [its_len]; exact Nat.le_refl _)])
  · rw [if_neg he]
    simp -dsimp -implicitDefEqProofs (disch := first | omega | (simp only [List.length_append, List.length_cons, List.length_nil, List.length_take, List.length_drop]; omega)) only [he, ↓aPre, aPost, oneW, allOne, retV, retVA, simprocAttr]
    exact post_le (by repeat (first | exact leD.nil | exact leE.refl _ | exact leE.nil _ | refine leD.cons ?_ ?_ | refine leE.agg ?_))
end Go.Proofs.Ytpjnpmdmcllilaa

/- The end of a line. No condition but what each says. -/
import Derived.Test.YtihgplkfikpgbaaDoorWWr
set_option linter.unusedSimpArgs false
set_option linter.unusedVariables false
set_option maxRecDepth 8000
set_option maxHeartbeats 4000000
namespace Go.Proofs.YtihgplkfikpgbaaDoor
open Go.Eng Go.RowKit
def a20 : AFn := ⟨31, (.seq (.ops [⟨(.some 4), (.box 4 4 (.tmp 1)), .none⟩]) (.seq (.block 0 (.loop (.seq (.seq (.ops [⟨(.some 6), (.fadr 2 (.tmp 4)), .none⟩, ⟨(.some 7), (.ld (.tmp 6)), .none⟩, ⟨(.some 8), (.mov (.tmp 7)), .none⟩, ⟨(.some 9), (.mov (.tmp 0)), (.some (8, true))⟩, ⟨(.some 10), (.callm 38 [(.tmp 9)]), (.some (8, true))⟩, ⟨(.some 11), (.bin .rem (.tmp 10) (.const (.int .i64 8))), (.some (8, true))⟩, ⟨(.some 12), (.bin .neq (.tmp 11) (.const (.int .i64 4))), (.some (8, true))⟩, ⟨(.some 13), (.pick (.tmp 8) (.tmp 12) (.const (.bool false))), .none⟩]) (.cond (.tmp 13) .skip (.exit 0))) (.block 1 (.ops [⟨(.some 14), (.mov (.tmp 0)), .none⟩, ⟨(.some 15), (.callm 39 [(.tmp 14), (.const (.int .u32 0)), (.const (.int .i64 1))]), .none⟩]))))) (.seq (.ops [⟨(.some 16), (.mov (.tmp 0)), .none⟩, ⟨(.some 17), (.callm 22 [(.tmp 16), (.const (.string (strOfNums [48, 48, 48, 48, 48, 48, 48, 48, 48, 48, 48, 49])))]), .none⟩]) (.block 2 (.seq (.ops [⟨(.some 19), (.fadr 0 (.tmp 4)), .none⟩, ⟨(.some 20), (.ld (.tmp 19)), .none⟩, ⟨(.some 21), (.mov (.tmp 20)), .none⟩, ⟨(.some 22), (.mov (.tmp 2)), (.some (21, true))⟩, ⟨(.some 23), (.pick (.tmp 21) (.tmp 22) (.const (.bool false))), .none⟩, ⟨(.some 18), (.mov (.tmp 23)), .none⟩]) (.cond (.tmp 18) (.ops [⟨(.some 24), (.mov (.tmp 0)), .none⟩, ⟨(.some 25), (.callm 39 [(.tmp 24), (.const (.int .u32 1)), (.const (.int .i64 1))]), .none⟩]) (.seq (.ops [⟨(.some 27), (.fadr 0 (.tmp 4)), .none⟩, ⟨(.some 28), (.ld (.tmp 27)), .none⟩, ⟨(.some 26), (.mov (.tmp 28)), .none⟩]) (.cond (.tmp 26) (.ops [⟨(.some 29), (.mov (.tmp 0)), .none⟩, ⟨(.some 30), (.callm 39 [(.tmp 29), (.const (.int .u32 0)), (.const (.int .i64 1))]), .none⟩]) .skip)))))))), []⟩
theorem c20 : cmpF Tryd.prog [3000038, 3000039, 3000022] [] 20 = some a20 := by kernel_rfl
def eol : List Int := [0, 0, 0, 0, 0, 0, 0, 0, 0, 0, 0, 1]
/-- how many noughts up to the middle of a byte -/
def fillN (al : Bool) (n : Nat) : Nat := if al then (12 - n % 8) % 8 else 0
def tagL (two single : Bool) : List Int := if two then [if single then 1 else 0] else []
def endL (al two single : Bool) (n : Nat) : List Int := List.replicate (fillN al n) 0 ++ (eol ++ tagL two single)
theorem eol_bits : Bits eol := by unfold Bits eol; decide
theorem eol_len : eol.length = 12 := rfl
theorem txt_eol : txt eol = [48, 48, 48, 48, 48, 48, 48, 48, 48, 48, 48, 49] := rfl
theorem end_m (f : Nat → Int) (hf : Bit f) (n : Nat) (two al en single : Bool) (ev : Int) (hA : At f n (endL al two single n)) (hn : n < 990000) : GivM Tryd.prog 20 [.ptr 2000000 0, .agg [.d (.c (.bool two)), .d (.c (.int .i64 ev)), .d (.c (.bool al)), .d (.c (.bool en))], .d (.c (.bool single))] [(2000000, .box [.sl 1000000 1 0 (pk f n).length, .d (.c (.int .i64 (n : Nat))), .d (.c (.bool false))]), (1000000, .row 1 (li .u8 (pk f n)))] (.tup [])
    [(2000000, .box [.sl 1000000 1 0 (pk f (n + (endL al two single n).length)).length, .d (.c (.int .i64 ((n + (endL al two single n).length) : Nat))), .d (.c (.bool false))]), (1000000, .row 1 (li .u8 (pk f (n + (endL al two single n).length))))] := by
  obtain ⟨h1, h2⟩ := hA.app
  obtain ⟨h3, h4⟩ := h2.app
  rw [List.length_replicate] at h2 h3 h4
  obtain ⟨z, hz⟩ : ∃ z, z = fillN al n := ⟨_, rfl⟩
  rw [← hz] at h1 h2 h3 h4
  have hz8 : z ≤ 7 := by rw [hz]; unfold fillN; split <;> omega
  have hfz : ∀ i, i < z → f (n + i) = 0 := fun i hi => by
    rw [h1 i (by rw [List.length_replicate]; exact hi)]
    simp [List.getD, hi]
  have hlen : (endL al two single n).length = z + 12 + (tagL two single).length := by
    rw [endL, List.length_append, List.length_append, List.length_replicate, eol_len, ← hz]; omega
  refine GivM.of mixed c20 (Nat.le_of_ble_eq_true rfl) rfl rfl ?_
  simp -dsimp -implicitDefEqProofs (disch := first | omega | (simp only [List.length_append, List.length_cons, List.length_nil, List.length_take, List.length_drop]; omega)) only [a20, ↓aPre, aPost, oneW, allOne, retV, retVA, simprocAttr]
  have hw0 : ∀ m, m < 999000 → f m = 0 → GivM Tryd.prog 39 [.ptr 2000000 0, .d (.c (.int .u32 (0 : Nat))), .d (.c (.int .i64 (1 : Nat)))] [(2000000, .box [.sl 1000000 1 0 (pk f m).length, .d (.c (.int .i64 (m : Nat))), .d (.c (.bool false))]), (1000000, .row 1 (li .u8 (pk f m)))] (.d (.c (.int .i64 0))) [(2000000, .box [.sl 1000000 1 0 (pk f (m + 1)).length, .d (.c (.int .i64 ((m + 1) : Nat))), .d (.c (.bool false))]), (1000000, .row 1 (li .u8 (pk f (m + 1))))] := fun m hm hf0 => write_m f hf m 0 1 (by omega) (by decide) (by decide) fun i hi => by
    obtain rfl : i = 0 := by omega
    exact hf0
  have hw1 : ∀ m, m < 999000 → f m = 1 → GivM Tryd.prog 39 [.ptr 2000000 0, .d (.c (.int .u32 (1 : Nat))), .d (.c (.int .i64 (1 : Nat)))] [(2000000, .box [.sl 1000000 1 0 (pk f m).length, .d (.c (.int .i64 (m : Nat))), .d (.c (.bool false))]), (1000000, .row 1 (li .u8 (pk f m)))] (.d (.c (.int .i64 0))) [(2000000, .box [.sl 1000000 1 0 (pk f (m + 1)).length, .d (.c (.int .i64 ((m + 1) : Nat))), .d (.c (.bool false))]), (1000000, .row 1 (li .u8 (pk f (m + 1))))] := fun m hm hf0 => write_m f hf m 1 1 (by omega) (by decide) (by decide) fun i hi => by
    obtain rfl : i = 0 := by omega
    exact hf0
  simp only [Int.natCast_zero, Int.natCast_one] at hw0 hw1
  have hwe := word_m f hf (n + z) eol eol_bits h3 (by rw [eol_len]; omega)
  rw [txt_eol, eol_len] at hwe
  rw [eol_len] at h4
  refine loop_of (fun s => ∃ (k : Nat), k ≤ z ∧ s.tm 0 = .ptr 2000000 0 ∧ s.tm 2 = .d (.c (.bool single)) ∧ s.tm 4 = .ptr 4 0 ∧ s.hp 4 = some (.box [.d (.c (.bool two)), .d (.c (.int .i64 ev)), .d (.c (.bool al)), .d (.c (.bool en))]) ∧ s.hp 2000000 = some (.box [.sl 1000000 1 0 (pk f (n + k)).length, .d (.c (.int .i64 ((n + k) : Nat))), .d (.c (.bool false))]) ∧ s.hp 1000000 = some (.row 1 (li .u8 (pk f (n + k))))) (fun s => 1000000 - (bxN (s.hp 2000000) 1).toNat) ?_ ?_
  · refine ⟨0, Nat.zero_le _, ?_⟩
    simp -dsimp -implicitDefEqProofs (disch := first | omega | (simp only [List.length_append, List.length_cons, List.length_nil, List.length_take, List.length_drop]; omega)) only [↓aPre, aPost, oneW, allOne, retV, retVA, simprocAttr]
  rintro s ⟨k, hk, hs⟩
  have hav : (bxN (s.hp 2000000) 1).toNat = n + k := by
    rw [hs.2.2.2.2.1]
    rfl
  by_cases hlt : k < z
  · have hal : al = true := by
      cases al
      · simp [fillN] at hz; omega
      · rfl
    subst hal
    have hz2 : z = (12 - n % 8) % 8 := by rw [hz]; rfl
    have hmod : ((n : Int) + (k : Int)).tmod 8 = (((n + k) % 8 : Nat) : Int) := by rw [Int.tmod_eq_emod_of_nonneg (by omega)]; omega
    have hne : ¬ (((n + k) % 8 : Nat) : Int) = 4 := by omega
    have hwm := hw0 (n + k) (by omega) (hfz k hlt)
    simp -dsimp -implicitDefEqProofs (disch := first | omega | (simp only [List.length_append, List.length_cons, List.length_nil, List.length_take, List.length_drop]; omega)) only [hs, ↓aPre, aPost, oneW, allOne, retV, retVA, simprocAttr]
    refine call_mut (len_m f (n + k)) [] rfl rfl ?_ ?_
    · simp -dsimp -implicitDefEqProofs (disch := first | omega | (simp only [List.length_append, List.length_cons, List.length_nil, List.length_take, List.length_drop]; omega)) only [hs, ↓aPre, aPost, oneW, allOne, retV, retVA, simprocAttr]
    simp -dsimp -implicitDefEqProofs (disch := first | omega | (simp only [List.length_append, List.length_cons, List.length_nil, List.length_take, List.length_drop]; omega)) only [hs, hmod, ibne_t hne, ↓aPre, aPost, oneW, allOne, retV, retVA, simprocAttr]
    refine call_mut hwm [] rfl rfl ?_ ?_
    · simp -dsimp -implicitDefEqProofs (disch := first | omega | (simp only [List.length_append, List.length_cons, List.length_nil, List.length_take, List.length_drop]; omega)) only [hs, ↓aPre, aPost, oneW, allOne, retV, retVA, simprocAttr]
    simp -dsimp -implicitDefEqProofs (disch := first | omega | (simp only [List.length_append, List.length_cons, List.length_nil, List.length_take, List.length_drop]; omega)) only [hs, ↓aPre, aPost, oneW, allOne, retV, retVA, simprocAttr]
    refine round_of ⟨k + 1, by omega, ?_⟩ ?_
    · simp -dsimp -implicitDefEqProofs (disch := first | omega | (simp only [List.length_append, List.length_cons, List.length_nil, List.length_take, List.length_drop]; omega)) only [hs, Nat.add_assoc, ↓aPre, aPost, oneW, allOne, retV, retVA, simprocAttr]
    · simp -dsimp -implicitDefEqProofs (disch := first | omega | (simp only [List.length_append, List.length_cons, List.length_nil, List.length_take, List.length_drop]; omega)) only [hs, bxN_b, ↓aPre, aPost, oneW, allOne, retV, retVA, simprocAttr]
      omega
  · obtain rfl : k = z := by omega
    have fin : ∀ s2 : St, s2.tm 0 = .ptr 2000000 0 ∧ s2.tm 2 = .d (.c (.bool single)) → True := fun _ _ => trivial
    by_cases hal : al = true
    · subst hal
      have hz2 : k = (12 - n % 8) % 8 := by rw [hz]; rfl
      have hmod : ((n : Int) + (k : Int)).tmod 8 = (((n + k) % 8 : Nat) : Int) := by rw [Int.tmod_eq_emod_of_nonneg (by omega)]; omega
      have he : (((n + k) % 8 : Nat) : Int) = 4 := by omega
      simp -dsimp -implicitDefEqProofs (disch := first | omega | (simp only [List.length_append, List.length_cons, List.length_nil, List.length_take, List.length_drop]; omega)) only [hs, ↓aPre, aPost, oneW, allOne, retV, retVA, simprocAttr]
      refine call_mut (len_m f (n + k)) [] rfl rfl ?_ ?_
      · simp -dsimp -implicitDefEqProofs (disch := first | omega | (simp only [List.length_append, List.length_cons, List.length_nil, List.length_take, List.length_drop]; omega)) only [hs, ↓aPre, aPost, oneW, allOne, retV, retVA, simprocAttr]
      simp -dsimp -implicitDefEqProofs (disch := first | omega | (simp only [List.length_append, List.length_cons, List.length_nil, List.length_take, List.length_drop]; omega)) only [hs, hmod, ibne_f he, ↓aPre, aPost, oneW, allOne, retV, retVA, simprocAttr]
      refine call_mut hwe [] rfl rfl ?_ ?_
      · simp -dsimp -implicitDefEqProofs (disch := first | omega | (simp only [List.length_append, List.length_cons, List.length_nil, List.length_take, List.length_drop]; omega)) only [hs, ↓aPre, aPost, oneW, allOne, retV, retVA, simprocAttr]
      cases two
      · simp -dsimp -implicitDefEqProofs (disch := first | omega | (simp only [List.length_append, List.length_cons, List.length_nil, List.length_take, List.length_drop]; omega)) only [hs, ↓aPre, aPost, oneW, allOne, retV, retVA, simprocAttr]
        refine end_of rfl ?_
        rw [hlen]
        simp -dsimp -implicitDefEqProofs (disch := first | omega | (simp only [List.length_append, List.length_cons, List.length_nil, List.length_take, List.length_drop]; omega)) only [hs, tagL, Nat.add_assoc, ↓aPre, aPost, oneW, allOne, retV, retVA, simprocAttr]
      · cases single
        · have h5 := hw0 (n + k + 12) (by omega) (h4 0 (by decide))
          simp -dsimp -implicitDefEqProofs (disch := first | omega | (simp only [List.length_append, List.length_cons, List.length_nil, List.length_take, List.length_drop]; omega)) only [hs, ↓aPre, aPost, oneW, allOne, retV, retVA, simprocAttr]
          refine call_mut h5 [] rfl rfl ?_ ?_
          · simp -dsimp -implicitDefEqProofs (disch := first | omega | (simp only [List.length_append, List.length_cons, List.length_nil, List.length_take, List.length_drop]; omega)) only [hs, ↓aPre, aPost, oneW, allOne, retV, retVA, simprocAttr]
          simp -dsimp -implicitDefEqProofs (disch := first | omega | (simp only [List.length_append, List.length_cons, List.length_nil, List.length_take, List.length_drop]; omega)) only [hs, ↓aPre, aPost, oneW, allOne, retV, retVA, simprocAttr]
          refine end_of rfl ?_
          rw [hlen]
          simp -dsimp -implicitDefEqProofs (disch := first | omega | (simp only [List.length_append, List.length_cons, List.length_nil, List.length_take, List.length_drop]; omega)) only [hs, tagL, Nat.add_assoc, ↓aPre, aPost, oneW, allOne, retV, retVA, simprocAttr]
        · have h5 := hw1 (n + k + 12) (by omega) (h4 0 (by decide))
          simp -dsimp -implicitDefEqProofs (disch := first | omega | (simp only [List.length_append, List.length_cons, List.length_nil, List.length_take, List.length_drop]; omega)) only [hs, ↓aPre, aPost, oneW, allOne, retV, retVA, simprocAttr]
          refine call_mut h5 [] rfl rfl ?_ ?_
          · simp -dsimp -implicitDefEqProofs (disch := first | omega | (simp only [List.length_append, List.length_cons, List.length_nil, List.length_take, List.length_drop]; omega)) only [hs, ↓aPre, aPost, oneW, allOne, retV, retVA, simprocAttr]
          simp -dsimp -implicitDefEqProofs (disch := first | omega | (simp only [List.length_append, List.length_cons, List.length_nil, List.length_take, List.length_drop]; omega)) only [hs, ↓aPre, aPost, oneW, allOne, retV, retVA, simprocAttr]
          refine end_of rfl ?_
          rw [hlen]
          simp -dsimp -implicitDefEqProofs (disch := first | omega | (simp only [List.length_append, List.length_cons, List.length_nil, List.length_take, List.length_drop]; omega)) only [hs, tagL, Nat.add_assoc, ↓aPre, aPost, oneW, allOne, retV, retVA, simprocAttr]
    · have hal2 : al = false := by simpa using hal
      subst hal2
      simp -dsimp -implicitDefEqProofs (disch := first | omega | (simp only [List.length_append, List.length_cons, List.length_nil, List.length_take, List.length_drop]; omega)) only [hs, ↓aPre, aPost, oneW, allOne, retV, retVA, simprocAttr]
      refine call_mut hwe [] rfl rfl ?_ ?_
      · simp -dsimp -implicitDefEqProofs (disch := first | omega | (simp only [List.length_append, List.length_cons, List.length_nil, List.length_take, List.length_drop]; omega)) only [hs, ↓aPre, aPost, oneW, allOne, retV, retVA, simprocAttr]
      cases two
      · simp -dsimp -implicitDefEqProofs (disch := first | omega | (simp only [List.length_append, List.length_cons, List.length_nil, List.length_take, List.length_drop]; omega)) only [hs, ↓aPre, aPost, oneW, allOne, retV, retVA, simprocAttr]
        refine end_of rfl ?_
        rw [hlen]
        simp -dsimp -implicitDefEqProofs (disch := first | omega | (simp only [List.length_append, List.length_cons, List.length_nil, List.length_take, List.length_drop]; omega)) only [hs, tagL, Nat.add_assoc, ↓aPre, aPost, oneW, allOne, retV, retVA, simprocAttr]
      · cases single
        · have h5 := hw0 (n + k + 12) (by omega) (h4 0 (by decide))
          simp -dsimp -implicitDefEqProofs (disch := first | omega | (simp only [List.length_append, List.length_cons, List.length_nil, List.length_take, List.length_drop]; omega)) only [hs, ↓aPre, aPost, oneW, allOne, retV, retVA, simprocAttr]
          refine call_mut h5 [] rfl rfl ?_ ?_
          · simp -dsimp -implicitDefEqProofs (disch := first | omega | (simp only [List.length_append, List.length_cons, List.length_nil, List.length_take, List.length_drop]; omega)) only [hs, ↓aPre, aPost, oneW, allOne, retV, retVA, simprocAttr]
          simp -dsimp -implicitDefEqProofs (disch := first | omega | (simp only [List.length_append, List.length_cons, List.length_nil, List.length_take, List.length_drop]; omega)) only [hs, ↓aPre, aPost, oneW, allOne, retV, retVA, simprocAttr]
          refine end_of rfl ?_
          rw [hlen]
          simp -dsimp -implicitDefEqProofs (disch := first | omega | (simp only [List.length_append, List.length_cons, List.length_nil, List.length_take, List.length_drop]; omega)) only [hs, tagL, Nat.add_assoc, ↓aPre, aPost, oneW, allOne, retV, retVA, simprocAttr]
        · have h5 := hw1 (n + k + 12) (by omega) (h4 0 (by decide))
          simp -dsimp -implicitDefEqProofs (disch := first | omega | (simp only [List.length_append, List.length_cons, List.length_nil, List.length_take, List.length_drop]; omega)) only [hs, ↓aPre, aPost, oneW, allOne, retV, retVA, simprocAttr]
          refine call_mut h5 [] rfl rfl ?_ ?_
          · simp -dsimp -implicitDefEqProofs (disch := first | omega | (simp only [List.length_append, List.length_cons, List.length_nil, List.length_take, List.length_drop]; omega)) only [hs, ↓aPre, aPost, oneW, allOne, retV, retVA, simprocAttr]
          simp -dsimp -implicitDefEqProofs (disch := first | omega | (simp only [List.length_append, List.length_cons, List.length_nil, List.length_take, List.length_drop]; omega)) only [hs, ↓aPre, aPost, oneW, allOne, retV, retVA, simprocAttr]
          refine end_of rfl ?_
          rw [hlen]
          simp -dsimp -implicitDefEqProofs (disch := first | omega | (simp only [List.length_append, List.length_cons, List.length_nil, List.length_take, List.length_drop]; omega)) only [hs, tagL, Nat.add_assoc, ↓aPre, aPost, oneW, allOne, retV, retVA, simprocAttr]
end Go.Proofs.YtihgplkfikpgbaaDoor

/- The reference's values of bytes. No condition but what each says. -/
import Derived.Test.YtpjnpmdmcllilaaWFSize
set_option linter.unusedSimpArgs false
set_option linter.unusedVariables false
set_option maxRecDepth 8000
set_option maxHeartbeats 4000000
namespace Go.Proofs.Ytpjnpmdmcllilaa
open Go.Eng Go.RowKit
theorem rread_1 (kind : Int) (hz : szI kind = 1) (hf : decide (frP kind) = false) (b : List Int) (n : Nat) (big : Bool) (hn : n ≤ 65536) (hl : b.length ≤ 1000000) (hB : Bytes b) (h : n * 1 ≤ b.length) :
    Giv Try.prog 33 [.c (.string (strOfNums b)), .c (.int .i64 kind), .c (.int .i64 n), .c (.bool big)] (retV [.lst 1 (li .u64 (tab (el1 1 b big) n)), .c (.int .i64 0)]) := by
  refine Giv.of mixed c33 (Nat.le_of_ble_eq_true rfl) ?_
  have hsz := rsize_giv kind
  have hfr := frac_giv kind
  rw [hz] at hsz
  rw [hf] at hfr
  simp -dsimp -implicitDefEqProofs (disch := first | omega | (simp only [List.length_append, List.length_cons, List.length_nil, List.length_take, List.length_drop]; omega)) only [a33, ↓aPre, aPost, oneW, allOne, retV, retVA, simprocAttr]
  refine call_giv hsz ?_
  simp -dsimp -implicitDefEqProofs (disch := first | omega | (simp only [List.length_append, List.length_cons, List.length_nil, List.length_take, List.length_drop]; omega)) only [↓aPre, aPost, oneW, allOne, retV, retVA, simprocAttr]
  refine loop_nil 11 100 1 (fun s => ∃ (i : Nat), i ≤ n ∧ s.tm 12 = .d (.c (.int .i64 i)) ∧ s.tm 0 = .d (.c (.string (strOfNums b))) ∧ s.tm 1 = .d (.c (.int .i64 kind)) ∧ s.tm 2 = .d (.c (.int .i64 n)) ∧ s.tm 3 = .d (.c (.bool big)) ∧ s.tm 10 = .d (.c (.int .i64 1)) ∧ s.tm 11 = .sl 100 1 0 i ∧ s.hp 100 = some (.row 1 (li .u64 (tab (el1 1 b big) i)))) (fun s => n - (avN (s.tm 12)).toNat) ?_ (by decide) ?_ ?_
  · simp -dsimp -implicitDefEqProofs (disch := first | omega | (simp only [List.length_append, List.length_cons, List.length_nil, List.length_take, List.length_drop]; omega)) only [↓aPre, aPost, oneW, allOne, retV, retVA, simprocAttr]
  · refine ⟨0, Nat.zero_le _, ?_⟩
    simp -dsimp -implicitDefEqProofs (disch := first | omega | (simp only [List.length_append, List.length_cons, List.length_nil, List.length_take, List.length_drop]; omega)) only [tab, Int.natCast_zero, ↓aPre, aPost, oneW, allOne, retV, retVA, simprocAttr]
  rintro s ⟨i, hi, hs⟩
  have el2 := tab_len (el1 1 b big) i
  by_cases hlt : i < n
  · have e1 : ((i : Int) * 1).toNat = i := by omega
    have e2 : ((i : Int) * 1 + 1).toNat - i = 1 := by omega
    have hwl : ((b.drop i).take 1).length = 1 := by rw [List.length_take, List.length_drop]; omega
    have hwB : Bytes ((b.drop i).take 1) := (hB.drop _).take _
    obtain ⟨w, hw⟩ : ∃ w, w = (b.drop i).take 1 := ⟨_, rfl⟩
    rw [← hw] at hwl hwB
    simp -dsimp -implicitDefEqProofs (disch := first | omega | (simp only [List.length_append, List.length_cons, List.length_nil, List.length_take, List.length_drop]; omega)) only [hs, e1, e2, ← hw, ↓aPre, aPost, oneW, allOne, retV, retVA, simprocAttr]
    refine call_giv hfr ?_
    have n1 := number_giv w big (by omega) hwB
    rw [hwl] at n1
    have hel : gvK w big 1 = el1 1 b big i := by rw [hw, el1, Nat.mul_one]
    rw [hel] at n1
    simp -dsimp -implicitDefEqProofs (disch := first | omega | (simp only [List.length_append, List.length_cons, List.length_nil, List.length_take, List.length_drop]; omega)) only [hs, e1, e2, ← hw, ↓aPre, aPost, oneW, allOne, retV, retVA, simprocAttr]
    refine call_giv n1 ?_
    simp -dsimp -implicitDefEqProofs (disch := first | omega | (simp only [List.length_append, List.length_cons, List.length_nil, List.length_take, List.length_drop]; omega)) only [hs, e1, e2, ← hw, el2, ↓aPre, aPost, oneW, allOne, retV, retVA, simprocAttr]
    refine round_of ⟨i + 1, by omega, ?_⟩ ?_
    · simp -dsimp -implicitDefEqProofs (disch := first | omega | (simp only [List.length_append, List.length_cons, List.length_nil, List.length_take, List.length_drop]; omega)) only [hs, e1, e2, ← hw, el2, tab, ↓aPre, aPost, oneW, allOne, retV, retVA, simprocAttr]
    · simp -dsimp -implicitDefEqProofs (disch := first | omega | (simp only [List.length_append, List.length_cons, List.length_nil, List.length_take, List.length_drop]; omega)) only [hs, ↓aPre, aPost, oneW, allOne, retV, retVA, simprocAttr]
      omega
  · obtain rfl : i = n := by omega
    simp -dsimp -implicitDefEqProofs (disch := first | omega | (simp only [List.length_append, List.length_cons, List.length_nil, List.length_take, List.length_drop]; omega)) only [hs, el2, ↓aPre, aPost, oneW, allOne, retV, retVA, simprocAttr]
    exact post_eq rfl
theorem rread_2 (kind : Int) (hz : szI kind = 2) (hf : decide (frP kind) = false) (b : List Int) (n : Nat) (big : Bool) (hn : n ≤ 65536) (hl : b.length ≤ 1000000) (hB : Bytes b) (h : n * 2 ≤ b.length) :
    Giv Try.prog 33 [.c (.string (strOfNums b)), .c (.int .i64 kind), .c (.int .i64 n), .c (.bool big)] (retV [.lst 1 (li .u64 (tab (el1 2 b big) n)), .c (.int .i64 0)]) := by
  refine Giv.of mixed c33 (Nat.le_of_ble_eq_true rfl) ?_
  have hsz := rsize_giv kind
  have hfr := frac_giv kind
  rw [hz] at hsz
  rw [hf] at hfr
  simp -dsimp -implicitDefEqProofs (disch := first | omega | (simp only [List.length_append, List.length_cons, List.length_nil, List.length_take, List.length_drop]; omega)) only [a33, ↓aPre, aPost, oneW, allOne, retV, retVA, simprocAttr]
  refine call_giv hsz ?_
  simp -dsimp -implicitDefEqProofs (disch := first | omega | (simp only [List.length_append, List.length_cons, List.length_nil, List.length_take, List.length_drop]; omega)) only [↓aPre, aPost, oneW, allOne, retV, retVA, simprocAttr]
  refine loop_nil 11 100 1 (fun s => ∃ (i : Nat), i ≤ n ∧ s.tm 12 = .d (.c (.int .i64 i)) ∧ s.tm 0 = .d (.c (.string (strOfNums b))) ∧ s.tm 1 = .d (.c (.int .i64 kind)) ∧ s.tm 2 = .d (.c (.int .i64 n)) ∧ s.tm 3 = .d (.c (.bool big)) ∧ s.tm 10 = .d (.c (.int .i64 2)) ∧ s.tm 11 = .sl 100 1 0 i ∧ s.hp 100 = some (.row 1 (li .u64 (tab (el1 2 b big) i)))) (fun s => n - (avN (s.tm 12)).toNat) ?_ (by decide) ?_ ?_
  · simp -dsimp -implicitDefEqProofs (disch := first | omega | (simp only [List.length_append, List.length_cons, List.length_nil, List.length_take, List.length_drop]; omega)) only [↓aPre, aPost, oneW, allOne, retV, retVA, simprocAttr]
  · refine ⟨0, Nat.zero_le _, ?_⟩
    simp -dsimp -implicitDefEqProofs (disch := first | omega | (simp only [List.length_append, List.length_cons, List.length_nil, List.length_take, List.length_drop]; omega)) only [tab, Int.natCast_zero, ↓aPre, aPost, oneW, allOne, retV, retVA, simprocAttr]
  rintro s ⟨i, hi, hs⟩
  have el2 := tab_len (el1 2 b big) i
  by_cases hlt : i < n
  · have e1 : ((i : Int) * 2).toNat = i * 2 := by omega
    have e2 : ((i : Int) * 2 + 2).toNat - i * 2 = 2 := by omega
    have hwl : ((b.drop (i * 2)).take 2).length = 2 := by rw [List.length_take, List.length_drop]; omega
    have hwB : Bytes ((b.drop (i * 2)).take 2) := (hB.drop _).take _
    obtain ⟨w, hw⟩ : ∃ w, w = (b.drop (i * 2)).take 2 := ⟨_, rfl⟩
    rw [← hw] at hwl hwB
    simp -dsimp -implicitDefEqProofs (disch := first | omega | (simp only [List.length_append, List.length_cons, List.length_nil, List.length_take, List.length_drop]; omega)) only [hs, e1, e2, ← hw, ↓aPre, aPost, oneW, allOne, retV, retVA, simprocAttr]
    refine call_giv hfr ?_
    have n1 := number_giv w big (by omega) hwB
    rw [hwl] at n1
    have hel : gvK w big 2 = el1 2 b big i := by rw [hw]; rfl
    rw [hel] at n1
    simp -dsimp -implicitDefEqProofs (disch := first | omega | (simp only [List.length_append, List.length_cons, List.length_nil, List.length_take, List.length_drop]; omega)) only [hs, e1, e2, ← hw, ↓aPre, aPost, oneW, allOne, retV, retVA, simprocAttr]
    refine call_giv n1 ?_
    simp -dsimp -implicitDefEqProofs (disch := first | omega | (simp only [List.length_append, List.length_cons, List.length_nil, List.length_take, List.length_drop]; omega)) only [hs, e1, e2, ← hw, el2, ↓aPre, aPost, oneW, allOne, retV, retVA, simprocAttr]
    refine round_of ⟨i + 1, by omega, ?_⟩ ?_
    · simp -dsimp -implicitDefEqProofs (disch := first | omega | (simp only [List.length_append, List.length_cons, List.length_nil, List.length_take, List.length_drop]; omega)) only [hs, e1, e2, ← hw, el2, tab, ↓aPre, aPost, oneW, allOne, retV, retVA, simprocAttr]
    · simp -dsimp -implicitDefEqProofs (disch := first | omega | (simp only [List.length_append, List.length_cons, List.length_nil, List.length_take, List.length_drop]; omega)) only [hs, ↓aPre, aPost, oneW, allOne, retV, retVA, simprocAttr]
      omega
  · obtain rfl : i = n := by omega
    simp -dsimp -implicitDefEqProofs (disch := first | omega | (simp only [List.length_append, List.length_cons, List.length_nil, List.length_take, List.length_drop]; omega)) only [hs, el2, ↓aPre, aPost, oneW, allOne, retV, retVA, simprocAttr]
    exact post_eq rfl
theorem rread_4 (kind : Int) (hz : szI kind = 4) (hf : decide (frP kind) = false) (b : List Int) (n : Nat) (big : Bool) (hn : n ≤ 65536) (hl : b.length ≤ 1000000) (hB : Bytes b) (h : n * 4 ≤ b.length) :
    Giv Try.prog 33 [.c (.string (strOfNums b)), .c (.int .i64 kind), .c (.int .i64 n), .c (.bool big)] (retV [.lst 1 (li .u64 (tab (el1 4 b big) n)), .c (.int .i64 0)]) := by
  refine Giv.of mixed c33 (Nat.le_of_ble_eq_true rfl) ?_
  have hsz := rsize_giv kind
  have hfr := frac_giv kind
  rw [hz] at hsz
  rw [hf] at hfr
  simp -dsimp -implicitDefEqProofs (disch := first | omega | (simp only [List.length_append, List.length_cons, List.length_nil, List.length_take, List.length_drop]; omega)) only [a33, ↓aPre, aPost, oneW, allOne, retV, retVA, simprocAttr]
  refine call_giv hsz ?_
  simp -dsimp -implicitDefEqProofs (disch := first | omega | (simp only [List.length_append, List.length_cons, List.length_nil, List.length_take, List.length_drop]; omega)) only [↓aPre, aPost, oneW, allOne, retV, retVA, simprocAttr]
  refine loop_nil 11 100 1 (fun s => ∃ (i : Nat), i ≤ n ∧ s.tm 12 = .d (.c (.int .i64 i)) ∧ s.tm 0 = .d (.c (.string (strOfNums b))) ∧ s.tm 1 = .d (.c (.int .i64 kind)) ∧ s.tm 2 = .d (.c (.int .i64 n)) ∧ s.tm 3 = .d (.c (.bool big)) ∧ s.tm 10 = .d (.c (.int .i64 4)) ∧ s.tm 11 = .sl 100 1 0 i ∧ s.hp 100 = some (.row 1 (li .u64 (tab (el1 4 b big) i)))) (fun s => n - (avN (s.tm 12)).toNat) ?_ (by decide) ?_ ?_
  · simp -dsimp -implicitDefEqProofs (disch := first | omega | (simp only [List.length_append, List.length_cons, List.length_nil, List.length_take, List.length_drop]; omega)) only [↓aPre, aPost, oneW, allOne, retV, retVA, simprocAttr]
  · refine ⟨0, Nat.zero_le _, ?_⟩
    simp -dsimp -implicitDefEqProofs (disch := first | omega | (simp only [List.length_append, List.length_cons, List.length_nil, List.length_take, List.length_drop]; omega)) only [tab, Int.natCast_zero, ↓aPre, aPost, oneW, allOne, retV, retVA, simprocAttr]
  rintro s ⟨i, hi, hs⟩
  have el2 := tab_len (el1 4 b big) i
  by_cases hlt : i < n
  · have e1 : ((i : Int) * 4).toNat = i * 4 := by omega
    have e2 : ((i : Int) * 4 + 4).toNat - i * 4 = 4 := by omega
    have hwl : ((b.drop (i * 4)).take 4).length = 4 := by rw [List.length_take, List.length_drop]; omega
    have hwB : Bytes ((b.drop (i * 4)).take 4) := (hB.drop _).take _
    obtain ⟨w, hw⟩ : ∃ w, w = (b.drop (i * 4)).take 4 := ⟨_, rfl⟩
    rw [← hw] at hwl hwB
    simp -dsimp -implicitDefEqProofs (disch := first | omega | (simp only [List.length_append, List.length_cons, List.length_nil, List.length_take, List.length_drop]; omega)) only [hs, e1, e2, ← hw, ↓aPre, aPost, oneW, allOne, retV, retVA, simprocAttr]
    refine call_giv hfr ?_
    have n1 := number_giv w big (by omega) hwB
    rw [hwl] at n1
    have hel : gvK w big 4 = el1 4 b big i := by rw [hw]; rfl
    rw [hel] at n1
    simp -dsimp -implicitDefEqProofs (disch := first | omega | (simp only [List.length_append, List.length_cons, List.length_nil, List.length_take, List.length_drop]; omega)) only [hs, e1, e2, ← hw, ↓aPre, aPost, oneW, allOne, retV, retVA, simprocAttr]
    refine call_giv n1 ?_
    simp -dsimp -implicitDefEqProofs (disch := first | omega | (simp only [List.length_append, List.length_cons, List.length_nil, List.length_take, List.length_drop]; omega)) only [hs, e1, e2, ← hw, el2, ↓aPre, aPost, oneW, allOne, retV, retVA, simprocAttr]
    refine round_of ⟨i + 1, by omega, ?_⟩ ?_
    · simp -dsimp -implicitDefEqProofs (disch := first | omega | (simp only [List.length_append, List.length_cons, List.length_nil, List.length_take, List.length_drop]; omega)) only [hs, e1, e2, ← hw, el2, tab, ↓aPre, aPost, oneW, allOne, retV, retVA, simprocAttr]
    · simp -dsimp -implicitDefEqProofs (disch := first | omega | (simp only [List.length_append, List.length_cons, List.length_nil, List.length_take, List.length_drop]; omega)) only [hs, ↓aPre, aPost, oneW, allOne, retV, retVA, simprocAttr]
      omega
  · obtain rfl : i = n := by omega
    simp -dsimp -implicitDefEqProofs (disch := first | omega | (simp only [List.length_append, List.length_cons, List.length_nil, List.length_take, List.length_drop]; omega)) only [hs, el2, ↓aPre, aPost, oneW, allOne, retV, retVA, simprocAttr]
    exact post_eq rfl
theorem rread_8 (kind : Int) (hz : szI kind = 8) (hf : decide (frP kind) = false) (b : List Int) (n : Nat) (big : Bool) (hn : n ≤ 65536) (hl : b.length ≤ 1000000) (hB : Bytes b) (h : n * 8 ≤ b.length) :
    Giv Try.prog 33 [.c (.string (strOfNums b)), .c (.int .i64 kind), .c (.int .i64 n), .c (.bool big)] (retV [.lst 1 (li .u64 (tab (el1 8 b big) n)), .c (.int .i64 0)]) := by
  refine Giv.of mixed c33 (Nat.le_of_ble_eq_true rfl) ?_
  have hsz := rsize_giv kind
  have hfr := frac_giv kind
  rw [hz] at hsz
  rw [hf] at hfr
  simp -dsimp -implicitDefEqProofs (disch := first | omega | (simp only [List.length_append, List.length_cons, List.length_nil, List.length_take, List.length_drop]; omega)) only [a33, ↓aPre, aPost, oneW, allOne, retV, retVA, simprocAttr]
  refine call_giv hsz ?_
  simp -dsimp -implicitDefEqProofs (disch := first | omega | (simp only [List.length_append, List.length_cons, List.length_nil, List.length_take, List.length_drop]; omega)) only [↓aPre, aPost, oneW, allOne, retV, retVA, simprocAttr]
  refine loop_nil 11 100 1 (fun s => ∃ (i : Nat), i ≤ n ∧ s.tm 12 = .d (.c (.int .i64 i)) ∧ s.tm 0 = .d (.c (.string (strOfNums b))) ∧ s.tm 1 = .d (.c (.int .i64 kind)) ∧ s.tm 2 = .d (.c (.int .i64 n)) ∧ s.tm 3 = .d (.c (.bool big)) ∧ s.tm 10 = .d (.c (.int .i64 8)) ∧ s.tm 11 = .sl 100 1 0 i ∧ s.hp 100 = some (.row 1 (li .u64 (tab (el1 8 b big) i)))) (fun s => n - (avN (s.tm 12)).toNat) ?_ (by decide) ?_ ?_
  · simp -dsimp -implicitDefEqProofs (disch := first | omega | (simp only [List.length_append, List.length_cons, List.length_nil, List.length_take, List.length_drop]; omega)) only [↓aPre, aPost, oneW, allOne, retV, retVA, simprocAttr]
  · refine ⟨0, Nat.zero_le _, ?_⟩
    simp -dsimp -implicitDefEqProofs (disch := first | omega | (simp only [List.length_append, List.length_cons, List.length_nil, List.length_take, List.length_drop]; omega)) only [tab, Int.natCast_zero, ↓aPre, aPost, oneW, allOne, retV, retVA, simprocAttr]
  rintro s ⟨i, hi, hs⟩
  have el2 := tab_len (el1 8 b big) i
  by_cases hlt : i < n
  · have e1 : ((i : Int) * 8).toNat = i * 8 := by omega
    have e2 : ((i : Int) * 8 + 8).toNat - i * 8 = 8 := by omega
    have hwl : ((b.drop (i * 8)).take 8).length = 8 := by rw [List.length_take, List.length_drop]; omega
    have hwB : Bytes ((b.drop (i * 8)).take 8) := (hB.drop _).take _
    obtain ⟨w, hw⟩ : ∃ w, w = (b.drop (i * 8)).take 8 := ⟨_, rfl⟩
    rw [← hw] at hwl hwB
    simp -dsimp -implicitDefEqProofs (disch := first | omega | (simp only [List.length_append, List.length_cons, List.length_nil, List.length_take, List.length_drop]; omega)) only [hs, e1, e2, ← hw, ↓aPre, aPost, oneW, allOne, retV, retVA, simprocAttr]
    refine call_giv hfr ?_
    have n1 := number_giv w big (by omega) hwB
    rw [hwl] at n1
    have hel : gvK w big 8 = el1 8 b big i := by rw [hw]; rfl
    rw [hel] at n1
    simp -dsimp -implicitDefEqProofs (disch := first | omega | (simp only [List.length_append, List.length_cons, List.length_nil, List.length_take, List.length_drop]; omega)) only [hs, e1, e2, ← hw, ↓aPre, aPost, oneW, allOne, retV, retVA, simprocAttr]
    refine call_giv n1 ?_
    simp -dsimp -implicitDefEqProofs (disch := first | omega | (simp only [List.length_append, List.length_cons, List.length_nil, List.length_take, List.length_drop]; omega)) only [hs, e1, e2, ← hw, el2, ↓aPre, aPost, oneW, allOne, retV, retVA, simprocAttr]
    refine round_of ⟨i + 1, by omega, ?_⟩ ?_
    · simp -dsimp -implicitDefEqProofs (disch := first | omega | (simp only [List.length_append, List.length_cons, List.length_nil, List.length_take, List.length_drop]; omega)) only [hs, e1, e2, ← hw, el2, tab, ↓aPre, aPost, oneW, allOne, retV, retVA, simprocAttr]
    · simp -dsimp -implicitDefEqProofs (disch := first | omega | (simp only [List.length_append, List.length_cons, List.length_nil, List.length_take, List.length_drop]; omega)) only [hs, ↓aPre, aPost, oneW, allOne, retV, retVA, simprocAttr]
      omega
  · obtain rfl : i = n := by omega
    simp -dsimp -implicitDefEqProofs (disch := first | omega | (simp only [List.length_append, List.length_cons, List.length_nil, List.length_take, List.length_drop]; omega)) only [hs, el2, ↓aPre, aPost, oneW, allOne, retV, retVA, simprocAttr]
    exact post_eq rfl
theorem rread_f (kind : Int) (hz : szI kind = 8) (hf : decide (frP kind) = true) (b : List Int) (n : Nat) (big : Bool) (hn : n ≤ 65536) (hl : b.length ≤ 1000000) (hB : Bytes b) (h : n * 8 ≤ b.length) :
    Giv Try.prog 33 [.c (.string (strOfNums b)), .c (.int .i64 kind), .c (.int .i64 n), .c (.bool big)] (retV [.lst 1 (li .u64 (tab (elf b big) n)), .c (.int .i64 0)]) := by
  refine Giv.of mixed c33 (Nat.le_of_ble_eq_true rfl) ?_
  have hsz := rsize_giv kind
  have hfr := frac_giv kind
  rw [hz] at hsz
  rw [hf] at hfr
  simp -dsimp -implicitDefEqProofs (disch := first | omega | (simp only [List.length_append, List.length_cons, List.length_nil, List.length_take, List.length_drop]; omega)) only [a33, ↓aPre, aPost, oneW, allOne, retV, retVA, simprocAttr]
  refine call_giv hsz ?_
  simp -dsimp -implicitDefEqProofs (disch := first | omega | (simp only [List.length_append, List.length_cons, List.length_nil, List.length_take, List.length_drop]; omega)) only [↓aPre, aPost, oneW, allOne, retV, retVA, simprocAttr]
  refine loop_nil 11 100 1 (fun s => ∃ (i : Nat), i ≤ n ∧ s.tm 12 = .d (.c (.int .i64 i)) ∧ s.tm 0 = .d (.c (.string (strOfNums b))) ∧ s.tm 1 = .d (.c (.int .i64 kind)) ∧ s.tm 2 = .d (.c (.int .i64 n)) ∧ s.tm 3 = .d (.c (.bool big)) ∧ s.tm 10 = .d (.c (.int .i64 8)) ∧ s.tm 11 = .sl 100 1 0 i ∧ s.hp 100 = some (.row 1 (li .u64 (tab (elf b big) i)))) (fun s => n - (avN (s.tm 12)).toNat) ?_ (by decide) ?_ ?_
  · simp -dsimp -implicitDefEqProofs (disch := first | omega | (simp only [List.length_append, List.length_cons, List.length_nil, List.length_take, List.length_drop]; omega)) only [↓aPre, aPost, oneW, allOne, retV, retVA, simprocAttr]
  · refine ⟨0, Nat.zero_le _, ?_⟩
    simp -dsimp -implicitDefEqProofs (disch := first | omega | (simp only [List.length_append, List.length_cons, List.length_nil, List.length_take, List.length_drop]; omega)) only [tab, Int.natCast_zero, ↓aPre, aPost, oneW, allOne, retV, retVA, simprocAttr]
  rintro s ⟨i, hi, hs⟩
  have el2 := tab_len (elf b big) i
  by_cases hlt : i < n
  · have e1 : ((i : Int) * 8).toNat = i * 8 := by omega
    have e2 : ((i : Int) * 8 + 8).toNat - i * 8 = 8 := by omega
    have hwl : ((b.drop (i * 8)).take 8).length = 8 := by rw [List.length_take, List.length_drop]; omega
    have hwB : Bytes ((b.drop (i * 8)).take 8) := (hB.drop _).take _
    obtain ⟨w, hw⟩ : ∃ w, w = (b.drop (i * 8)).take 8 := ⟨_, rfl⟩
    rw [← hw] at hwl hwB
    simp -dsimp -implicitDefEqProofs (disch := first | omega | (simp only [List.length_append, List.length_cons, List.length_nil, List.length_take, List.length_drop]; omega)) only [hs, e1, e2, ← hw, ↓aPre, aPost, oneW, allOne, retV, retVA, simprocAttr]
    refine call_giv hfr ?_
    have t1 : w.take 4 = (b.drop (i * 8)).take 4 := by rw [hw, List.take_take]; rfl
    have t2 : w.drop 4 = (b.drop (i * 8 + 4)).take 4 := by rw [hw, List.drop_take, List.drop_drop]
    have l1 : (w.take 4).length = 4 := by rw [List.length_take, hwl]; rfl
    have l2 : (w.drop 4).length = 4 := by rw [List.length_drop, hwl]
    have n1 := number_giv (w.take 4) big (by omega) (hwB.take _)
    have n2 := number_giv (w.drop 4) big (by omega) (hwB.drop _)
    rw [l1, t1] at n1
    rw [l2, t2] at n2
    have gv4 := gv_in4 hB (i * 8) big
    have gv5 := gv_in4 hB (i * 8 + 4) big
    have hel : gvK ((b.drop (i * 8)).take 4) big 4 * 4294967296 + gvK ((b.drop (i * 8 + 4)).take 4) big 4 = elf b big i := rfl
    rw [← t1] at n1
    rw [← t2] at n2
    rw [← t1] at gv4 hel
    rw [← t2] at gv5 hel
    have ht4 : (w.drop 4).take 4 = w.drop 4 := take_all (by omega)
    simp -dsimp -implicitDefEqProofs (disch := first | omega | (simp only [List.length_append, List.length_cons, List.length_nil, List.length_take, List.length_drop]; omega)) only [hs, e1, e2, ← hw, hwl, ↓aPre, aPost, oneW, allOne, retV, retVA, simprocAttr]
    refine call_giv (by rw [t1]; rw [t1] at n1; exact n1) ?_
    simp -dsimp -implicitDefEqProofs (disch := first | omega | (simp only [List.length_append, List.length_cons, List.length_nil, List.length_take, List.length_drop]; omega)) only [hs, e1, e2, ← hw, hwl, ht4, ↓aPre, aPost, oneW, allOne, retV, retVA, simprocAttr]
    refine call_giv (by rw [t2]; rw [t2] at n2; exact n2) ?_
    rw [t1] at hel gv4
    rw [t2] at hel gv5
    simp -dsimp -implicitDefEqProofs (disch := first | omega | (simp only [List.length_append, List.length_cons, List.length_nil, List.length_take, List.length_drop]; omega)) only [hs, e1, e2, ← hw, hwl, ht4, hel, el2, ↓aPre, aPost, oneW, allOne, retV, retVA, simprocAttr]
    refine round_of ⟨i + 1, by omega, ?_⟩ ?_
    · simp -dsimp -implicitDefEqProofs (disch := first | omega | (simp only [List.length_append, List.length_cons, List.length_nil, List.length_take, List.length_drop]; omega)) only [hs, e1, e2, ← hw, hwl, ht4, hel, el2, tab, ↓aPre, aPost, oneW, allOne, retV, retVA, simprocAttr]
    · simp -dsimp -implicitDefEqProofs (disch := first | omega | (simp only [List.length_append, List.length_cons, List.length_nil, List.length_take, List.length_drop]; omega)) only [hs, ↓aPre, aPost, oneW, allOne, retV, retVA, simprocAttr]
      omega
  · obtain rfl : i = n := by omega
    simp -dsimp -implicitDefEqProofs (disch := first | omega | (simp only [List.length_append, List.length_cons, List.length_nil, List.length_take, List.length_drop]; omega)) only [hs, el2, ↓aPre, aPost, oneW, allOne, retV, retVA, simprocAttr]
    exact post_eq rfl
end Go.Proofs.Ytpjnpmdmcllilaa

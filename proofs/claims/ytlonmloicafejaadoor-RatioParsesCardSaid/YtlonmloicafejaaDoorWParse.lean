/- The program's fraction of a text. No condition but that the text is not too long. -/
import Derived.Test.YtlonmloicafejaaDoorWRPar
set_option linter.unusedSimpArgs false
set_option linter.unusedVariables false
set_option maxRecDepth 8000
set_option maxHeartbeats 4000000
namespace Go.Proofs.YtlonmloicafejaaDoor
open Go.Eng Go.RowKit
def itrN : Option Ob → Nat
  | some (.itr _ k) => k
  | _ => 0
theorem inn_t {l : List Int} {c : Int} (h : pos l c < l.length) : inn l c = true := decide_eq_true h
theorem inn_f {l : List Int} {c : Int} (h : ¬ pos l c < l.length) : inn l c = false := decide_eq_false h
theorem parse_giv (l : List Int) (hb : Bytes l) (hl : l.length ≤ 140737488355328) : Giv Tryd.prog 9 [.c (.string (strOfNums l))] (retV (rd (parS l))) := by
  have g1 := cut_giv l 47 hb (by decide) hl
  have g2 := cut_giv l 46 hb (by decide) hl
  have g3 := has_giv l 46 hb (by decide)
  have hp2 := pos_le l 46
  refine Giv.of mixed c9 (Nat.le_of_ble_eq_true rfl) ?_
  unfold rd
  by_cases h : pos l 47 < l.length
  · rw [inn_t h] at g1
    obtain ⟨v1, hv1, n1, k1⟩ := number_giv (l.take (pos l 47)) (hb.take _) (by rw [List.length_take]; omega)
    obtain ⟨v2, hv2, n2, k2⟩ := number_giv (bhd l 47) (hb.drop _) (by unfold bhd; rw [List.length_drop]; omega)
    rcases some_or (numS (l.take (pos l 47))) with c1 | ⟨n, c1⟩
    · rw [parS_b h (.inl c1)]
      rw [c1, Option.isSome_none] at n1
      obtain ⟨o, ho⟩ : ∃ o, o = (numS (bhd l 47)).isSome := ⟨_, rfl⟩
      rw [← ho] at n2
      simp -dsimp -implicitDefEqProofs (disch := first | omega | (simp only [List.length_append, List.length_cons, List.length_nil, List.length_take, List.length_drop]; omega)) only [a9, ↓aPre, aPost, oneW, allOne, retV, retVA, simprocAttr]
      refine call_giv g1 ?_
      simp -dsimp -implicitDefEqProofs (disch := first | omega | (simp only [List.length_append, List.length_cons, List.length_nil, List.length_take, List.length_drop]; omega)) only [↓aPre, aPost, oneW, allOne, retV, retVA, simprocAttr]
      refine call_giv n1 ?_
      simp -dsimp -implicitDefEqProofs (disch := first | omega | (simp only [List.length_append, List.length_cons, List.length_nil, List.length_take, List.length_drop]; omega)) only [↓aPre, aPost, oneW, allOne, retV, retVA, simprocAttr]
      refine call_giv n2 ?_
      simp -dsimp -implicitDefEqProofs (disch := first | omega | (simp only [List.length_append, List.length_cons, List.length_nil, List.length_take, List.length_drop]; omega)) only [↓aPre, aPost, oneW, allOne, retV, retVA, simprocAttr]
      exact post_eq rfl
    obtain rfl := k1 n c1
    rw [c1, Option.isSome_some] at n1
    rcases some_or (numS (bhd l 47)) with c2 | ⟨d, c2⟩
    · rw [parS_b h (.inr c2)]
      rw [c2, Option.isSome_none] at n2
      simp -dsimp -implicitDefEqProofs (disch := first | omega | (simp only [List.length_append, List.length_cons, List.length_nil, List.length_take, List.length_drop]; omega)) only [a9, ↓aPre, aPost, oneW, allOne, retV, retVA, simprocAttr]
      refine call_giv g1 ?_
      simp -dsimp -implicitDefEqProofs (disch := first | omega | (simp only [List.length_append, List.length_cons, List.length_nil, List.length_take, List.length_drop]; omega)) only [↓aPre, aPost, oneW, allOne, retV, retVA, simprocAttr]
      refine call_giv n1 ?_
      simp -dsimp -implicitDefEqProofs (disch := first | omega | (simp only [List.length_append, List.length_cons, List.length_nil, List.length_take, List.length_drop]; omega)) only [↓aPre, aPost, oneW, allOne, retV, retVA, simprocAttr]
      refine call_giv n2 ?_
      simp -dsimp -implicitDefEqProofs (disch := first | omega | (simp only [List.length_append, List.length_cons, List.length_nil, List.length_take, List.length_drop]; omega)) only [↓aPre, aPost, oneW, allOne, retV, retVA, simprocAttr]
      exact post_eq rfl
    · rw [parS_a h c1 c2]
      obtain rfl := k2 d c2
      rw [c2, Option.isSome_some] at n2
      simp -dsimp -implicitDefEqProofs (disch := first | omega | (simp only [List.length_append, List.length_cons, List.length_nil, List.length_take, List.length_drop]; omega)) only [a9, ↓aPre, aPost, oneW, allOne, retV, retVA, simprocAttr]
      refine call_giv g1 ?_
      simp -dsimp -implicitDefEqProofs (disch := first | omega | (simp only [List.length_append, List.length_cons, List.length_nil, List.length_take, List.length_drop]; omega)) only [↓aPre, aPost, oneW, allOne, retV, retVA, simprocAttr]
      refine call_giv n1 ?_
      simp -dsimp -implicitDefEqProofs (disch := first | omega | (simp only [List.length_append, List.length_cons, List.length_nil, List.length_take, List.length_drop]; omega)) only [↓aPre, aPost, oneW, allOne, retV, retVA, simprocAttr]
      refine call_giv n2 ?_
      simp -dsimp -implicitDefEqProofs (disch := first | omega | (simp only [List.length_append, List.length_cons, List.length_nil, List.length_take, List.length_drop]; omega)) only [↓aPre, aPost, oneW, allOne, retV, retVA, simprocAttr]
      exact post_eq rfl
  rw [inn_f h] at g1
  have hwl : (l.take (pos l 46)).length ≤ 140737488355328 := by rw [List.length_take]; omega
  obtain ⟨v1, hv1, n1, k1⟩ := number_giv (l.take (pos l 46)) (hb.take _) hwl
  have hpB : Bytes (bhd l 46) := hb.drop _
  have hB0 : Bytes [] := Bytes.nil
  rcases some_or (numS (l.take (pos l 46))) with c1 | ⟨n, c1⟩
  · rw [parS_c h c1]
    rw [c1, Option.isSome_none] at n1
    simp -dsimp -implicitDefEqProofs (disch := first | omega | (simp only [List.length_append, List.length_cons, List.length_nil, List.length_take, List.length_drop]; omega)) only [a9, ↓aPre, aPost, oneW, allOne, retV, retVA, simprocAttr]
    refine call_giv g1 ?_
    simp -dsimp -implicitDefEqProofs (disch := first | omega | (simp only [List.length_append, List.length_cons, List.length_nil, List.length_take, List.length_drop]; omega)) only [↓aPre, aPost, oneW, allOne, retV, retVA, simprocAttr]
    refine call_giv g2 ?_
    simp -dsimp -implicitDefEqProofs (disch := first | omega | (simp only [List.length_append, List.length_cons, List.length_nil, List.length_take, List.length_drop]; omega)) only [↓aPre, aPost, oneW, allOne, retV, retVA, simprocAttr]
    refine call_giv n1 ?_
    simp -dsimp -implicitDefEqProofs (disch := first | omega | (simp only [List.length_append, List.length_cons, List.length_nil, List.length_take, List.length_drop]; omega)) only [↓aPre, aPost, oneW, allOne, retV, retVA, simprocAttr]
    exact post_eq rfl
  obtain rfl : n = v1 := (k1 n c1).symm
  rw [c1, Option.isSome_some] at n1
  have c4 := parS_d h c1
  have c5 := parS_e h c1
  have hn := (numS_some c1).2
  have pu := pu_giv (l.take (pos l 46)) (hb.take _) hwl c1
  have hbn : ¬ pos l 46 < l.length → bhd l 46 = [] := fun k => List.drop_of_length_le (by omega)
  obtain ⟨pt, hpt⟩ : ∃ pt, pt = bhd l 46 := ⟨_, rfl⟩
  obtain ⟨wh, hwh⟩ : ∃ wh, wh = l.take (pos l 46) := ⟨_, rfl⟩
  rw [← hpt] at g2 c4 c5 hpB hbn
  rw [← hwh] at g2 n1 pu
  by_cases h4 : 9 < pt.length
  · rw [c4 (.inl h4)]
    simp -dsimp -implicitDefEqProofs (disch := first | omega | (simp only [List.length_append, List.length_cons, List.length_nil, List.length_take, List.length_drop]; omega)) only [a9, ↓aPre, aPost, oneW, allOne, retV, retVA, simprocAttr]
    refine call_giv g1 ?_
    simp -dsimp -implicitDefEqProofs (disch := first | omega | (simp only [List.length_append, List.length_cons, List.length_nil, List.length_take, List.length_drop]; omega)) only [↓aPre, aPost, oneW, allOne, retV, retVA, simprocAttr]
    refine call_giv g2 ?_
    simp -dsimp -implicitDefEqProofs (disch := first | omega | (simp only [List.length_append, List.length_cons, List.length_nil, List.length_take, List.length_drop]; omega)) only [↓aPre, aPost, oneW, allOne, retV, retVA, simprocAttr]
    refine call_giv n1 ?_
    simp -dsimp -implicitDefEqProofs (disch := first | omega | (simp only [List.length_append, List.length_cons, List.length_nil, List.length_take, List.length_drop]; omega)) only [↓aPre, aPost, oneW, allOne, retV, retVA, simprocAttr]
    exact post_eq rfl
  by_cases h3 : pt = []
  · subst h3
    by_cases h2 : pos l 46 < l.length
    · rw [c4 (.inr (.inl ⟨h2, rfl⟩))]
      rw [inn_t h2] at g2 g3
      simp -dsimp -implicitDefEqProofs (disch := first | omega | (simp only [List.length_append, List.length_cons, List.length_nil, List.length_take, List.length_drop]; omega)) only [a9, ↓aPre, aPost, oneW, allOne, retV, retVA, simprocAttr]
      refine call_giv g1 ?_
      simp -dsimp -implicitDefEqProofs (disch := first | omega | (simp only [List.length_append, List.length_cons, List.length_nil, List.length_take, List.length_drop]; omega)) only [↓aPre, aPost, oneW, allOne, retV, retVA, simprocAttr]
      refine call_giv g2 ?_
      simp -dsimp -implicitDefEqProofs (disch := first | omega | (simp only [List.length_append, List.length_cons, List.length_nil, List.length_take, List.length_drop]; omega)) only [↓aPre, aPost, oneW, allOne, retV, retVA, simprocAttr]
      refine call_giv n1 ?_
      simp -dsimp -implicitDefEqProofs (disch := first | omega | (simp only [List.length_append, List.length_cons, List.length_nil, List.length_take, List.length_drop]; omega)) only [↓aPre, aPost, oneW, allOne, retV, retVA, simprocAttr]
      refine call_giv g3 ?_
      simp -dsimp -implicitDefEqProofs (disch := first | omega | (simp only [List.length_append, List.length_cons, List.length_nil, List.length_take, List.length_drop]; omega)) only [str_beq hB0 hB0, ↓aPre, aPost, oneW, allOne, retV, retVA, simprocAttr]
      exact post_eq rfl
    rw [c5 (fun c => c.elim (fun c => by simp at c) fun c => c.elim (fun c => h2 c.1) fun c => c (fun z hz => by cases hz))]
    have ef : fracS n [] = (n, 1, 0) := by
      unfold fracS
      rw [show vf n [] = n from rfl, show 10 ^ ([] : List Int).length = 1 from rfl, shr_f (by omega)]
      simp only []
      rw [if_neg (by omega)]
    rw [ef]
    rw [inn_f h2] at g2 g3
    simp -dsimp -implicitDefEqProofs (disch := first | omega | (simp only [List.length_append, List.length_cons, List.length_nil, List.length_take, List.length_drop]; omega)) only [a9, ↓aPre, aPost, oneW, allOne, retV, retVA, simprocAttr]
    refine call_giv g1 ?_
    simp -dsimp -implicitDefEqProofs (disch := first | omega | (simp only [List.length_append, List.length_cons, List.length_nil, List.length_take, List.length_drop]; omega)) only [↓aPre, aPost, oneW, allOne, retV, retVA, simprocAttr]
    refine call_giv g2 ?_
    simp -dsimp -implicitDefEqProofs (disch := first | omega | (simp only [List.length_append, List.length_cons, List.length_nil, List.length_take, List.length_drop]; omega)) only [↓aPre, aPost, oneW, allOne, retV, retVA, simprocAttr]
    refine call_giv n1 ?_
    simp -dsimp -implicitDefEqProofs (disch := first | omega | (simp only [List.length_append, List.length_cons, List.length_nil, List.length_take, List.length_drop]; omega)) only [↓aPre, aPost, oneW, allOne, retV, retVA, simprocAttr]
    refine call_giv g3 ?_
    simp -dsimp -implicitDefEqProofs (disch := first | omega | (simp only [List.length_append, List.length_cons, List.length_nil, List.length_take, List.length_drop]; omega)) only [↓aPre, aPost, oneW, allOne, retV, retVA, simprocAttr]
    refine call_giv pu ?_
    simp -dsimp -implicitDefEqProofs (disch := first | omega | (simp only [List.length_append, List.length_cons, List.length_nil, List.length_take, List.length_drop]; omega)) only [↓aPre, aPost, oneW, allOne, retV, retVA, simprocAttr]
    refine loop_of (fun s => s.hp 83 = some (.itr (strOfNums []) 0) ∧ s.tm 83 = .ptr 83 0 ∧ s.tm 17 = .d (.c (.int .u64 n)) ∧ s.tm 16 = .d (.c (.int .u64 1)) ∧ s.tm 2 = .ptr 2 0 ∧ s.hp 2 = some (.box [.d (.c (.int .u32 0)), .d (.c (.int .u32 0))])) (fun s => 0) ?_ ?_
    · simp -dsimp -implicitDefEqProofs (disch := first | omega | (simp only [List.length_append, List.length_cons, List.length_nil, List.length_take, List.length_drop]; omega)) only [↓aPre, aPost, oneW, allOne, retV, retVA, simprocAttr]
    intro s hs
    have hsz : (strOfNums ([] : List Int)).size = 0 := by rw [str_size]; rfl
    simp -dsimp -implicitDefEqProofs (disch := first | omega | (simp only [List.length_append, List.length_cons, List.length_nil, List.length_take, List.length_drop]; omega)) only [hs, ↓aPre, aPost, oneW, allOne, retV, retVA, simprocAttr]
    refine loop_of (fun s => s.tm 17 = .d (.c (.int .u64 n)) ∧ s.tm 16 = .d (.c (.int .u64 1)) ∧ s.tm 2 = .ptr 2 0 ∧ s.hp 2 = some (.box [.d (.c (.int .u32 0)), .d (.c (.int .u32 0))])) (fun s => 0) ?_ ?_
    · simp -dsimp -implicitDefEqProofs (disch := first | omega | (simp only [List.length_append, List.length_cons, List.length_nil, List.length_take, List.length_drop]; omega)) only [hs, ↓aPre, aPost, oneW, allOne, retV, retVA, simprocAttr]
    clear hs
    intro s hs
    simp -dsimp -implicitDefEqProofs (disch := first | omega | (simp only [List.length_append, List.length_cons, List.length_nil, List.length_take, List.length_drop]; omega)) only [hs, ↓aPre, aPost, oneW, allOne, retV, retVA, simprocAttr]
    exact post_eq rfl
  have h2 : pos l 46 < l.length := Decidable.byContradiction fun c => h3 (hbn c)
  rw [inn_t h2] at g2 g3
  simp -dsimp -implicitDefEqProofs (disch := first | omega | (simp only [List.length_append, List.length_cons, List.length_nil, List.length_take, List.length_drop]; omega)) only [a9, ↓aPre, aPost, oneW, allOne, retV, retVA, simprocAttr]
  refine call_giv g1 ?_
  simp -dsimp -implicitDefEqProofs (disch := first | omega | (simp only [List.length_append, List.length_cons, List.length_nil, List.length_take, List.length_drop]; omega)) only [↓aPre, aPost, oneW, allOne, retV, retVA, simprocAttr]
  refine call_giv g2 ?_
  simp -dsimp -implicitDefEqProofs (disch := first | omega | (simp only [List.length_append, List.length_cons, List.length_nil, List.length_take, List.length_drop]; omega)) only [↓aPre, aPost, oneW, allOne, retV, retVA, simprocAttr]
  refine call_giv n1 ?_
  simp -dsimp -implicitDefEqProofs (disch := first | omega | (simp only [List.length_append, List.length_cons, List.length_nil, List.length_take, List.length_drop]; omega)) only [↓aPre, aPost, oneW, allOne, retV, retVA, simprocAttr]
  refine call_giv g3 ?_
  simp -dsimp -implicitDefEqProofs (disch := first | omega | (simp only [List.length_append, List.length_cons, List.length_nil, List.length_take, List.length_drop]; omega)) only [str_beq hpB hB0, h3, ↓aPre, aPost, oneW, allOne, retV, retVA, simprocAttr]
  refine call_giv pu ?_
  simp -dsimp -implicitDefEqProofs (disch := first | omega | (simp only [List.length_append, List.length_cons, List.length_nil, List.length_take, List.length_drop]; omega)) only [↓aPre, aPost, oneW, allOne, retV, retVA, simprocAttr]
  have hsz : (strOfNums pt).size = pt.length := str_size
  refine loop_of (fun s => ∃ k : Nat, k ≤ pt.length ∧ (∀ j, j < k → 48 ≤ pt.getD j 0 ∧ pt.getD j 0 ≤ 57) ∧ s.hp 83 = some (.itr (strOfNums pt) k) ∧ s.tm 83 = .ptr 83 0 ∧ s.tm 17 = .d (.c (.int .u64 (vf n (pt.take k) : Nat))) ∧ s.tm 16 = .d (.c (.int .u64 (10 ^ k : Nat))) ∧ s.tm 2 = .ptr 2 0 ∧ s.hp 2 = some (.box [.d (.c (.int .u32 0)), .d (.c (.int .u32 0))])) (fun s => pt.length - itrN (s.hp 83)) ?_ ?_
  · refine ⟨0, Nat.zero_le _, fun j hj => by omega, ?_⟩
    have e0 : vf n [] = n := rfl
    simp -dsimp -implicitDefEqProofs (disch := first | omega | (simp only [List.length_append, List.length_cons, List.length_nil, List.length_take, List.length_drop]; omega)) only [Int.natCast_zero, Nat.pow_zero, Int.natCast_one, e0, ↓aPre, aPost, oneW, allOne, retV, retVA, simprocAttr]
  rintro s ⟨k, hk, hj, hs⟩
  have hvb := vf_b hn hk (by omega) hj
  by_cases hlt : k < pt.length
  · obtain ⟨c, m, hdc, hc, hg1, hg2⟩ := dec_c hpB hlt
    have hsn := vf_snoc hlt n
    have hvc := vf_c hn hlt (by omega) hj
    have hbad := fun (c : ¬ (48 ≤ pt.getD k 0 ∧ pt.getD k 0 ≤ 57)) => c4 (.inr (.inr (show ¬ isD pt from fun hd => c (isD_get hd hlt))))
    obtain ⟨z, hze⟩ : ∃ z, z = pt.getD k 0 := ⟨_, rfl⟩
    obtain ⟨d, hd⟩ : ∃ d, d = 10 ^ k := ⟨_, rfl⟩
    obtain ⟨d', hd'⟩ : ∃ d', d' = 10 ^ (k + 1) := ⟨_, rfl⟩
    obtain ⟨x, hx⟩ : ∃ x, x = vf n (pt.take k) := ⟨_, rfl⟩
    have hdd : (d : Int) * 10 = (d' : Int) := by rw [hd, hd', Nat.pow_succ]; omega
    rw [← hd, ← hx] at hs hvb
    rw [← hx] at hvc
    rw [← hze] at hg1 hg2 hbad hsn
    rw [← hx] at hsn
    by_cases c2 : 48 ≤ z ∧ z ≤ 57
    · obtain ⟨hcz, rfl⟩ := hg1 c2
      obtain ⟨c2, c6⟩ := c2
      have := hvb.2.2 hlt
      have gm := mul_giv x 10 (by omega) (by omega)
      rw [show x * 10 / 18446744073709551616 = 0 by omega, show x * 10 % 18446744073709551616 = x * 10 by omega, Int.natCast_zero] at gm
      obtain ⟨y, hy⟩ : ∃ y, y = x * 10 := ⟨_, rfl⟩
      rw [← hy] at gm
      have e1 : (y : Int) + ((c : Int) - 48) = ((10 * x + (z - 48).toNat : Nat) : Int) := by omega
      rw [← hsn] at e1
      simp -dsimp -implicitDefEqProofs (disch := first | omega | (simp only [List.length_append, List.length_cons, List.length_nil, List.length_take, List.length_drop]; omega)) only [hs, hdc, ↓aPre, aPost, oneW, allOne, retV, retVA, simprocAttr]
      refine call_giv gm ?_
      have w1 : IntKind.i32.wrap ((c : Int) - 48) = (c : Int) - 48 := by rw [IntKind.wrap_i32]; omega
      simp -dsimp -implicitDefEqProofs (disch := first | omega | (simp only [List.length_append, List.length_cons, List.length_nil, List.length_take, List.length_drop]; omega)) only [hs, hdc, w1, e1, hdd, ↓aPre, aPost, oneW, allOne, retV, retVA, simprocAttr]
      refine round_of ⟨k + 1, by omega, fun j hjk => ?_, ?_⟩ ?_
      · by_cases e : j < k
        · exact hj j e
        · obtain rfl : j = k := by omega
          rw [← hze]; exact ⟨c2, c6⟩
      · rw [← hd']
        simp -dsimp -implicitDefEqProofs (disch := first | omega | (simp only [List.length_append, List.length_cons, List.length_nil, List.length_take, List.length_drop]; omega)) only [hs, hdc, ↓aPre, aPost, oneW, allOne, retV, retVA, simprocAttr]
      · simp -dsimp -implicitDefEqProofs (disch := first | omega | (simp only [List.length_append, List.length_cons, List.length_nil, List.length_take, List.length_drop]; omega)) only [hs, hdc, itrN, ↓aPre, aPost, oneW, allOne, retV, retVA, simprocAttr]
        omega
    · rw [hbad c2]
      rcases hg2 c2 with c6 | c6
      · simp -dsimp -implicitDefEqProofs (disch := first | omega | (simp only [List.length_append, List.length_cons, List.length_nil, List.length_take, List.length_drop]; omega)) only [hs, hdc, ↓aPre, aPost, oneW, allOne, retV, retVA, simprocAttr]
        exact post_eq rfl
      · simp -dsimp -implicitDefEqProofs (disch := first | omega | (simp only [List.length_append, List.length_cons, List.length_nil, List.length_take, List.length_drop]; omega)) only [hs, hdc, ↓aPre, aPost, oneW, allOne, retV, retVA, simprocAttr]
        exact post_eq rfl
  obtain rfl : k = pt.length := by omega
  have hdig : isD pt := by
    have := dig_take hj
    rwa [List.take_length] at this
  rw [c5 (fun c => c.elim h4 fun c => c.elim (fun c => h3 c.2) fun c => c hdig)]
  rw [List.take_length] at hs hvb
  unfold fracS
  obtain ⟨D, hD⟩ : ∃ D, D = 10 ^ pt.length := ⟨_, rfl⟩
  obtain ⟨N, hN⟩ : ∃ N, N = vf n pt := ⟨_, rfl⟩
  rw [← hD, ← hN] at hs hvb ⊢
  obtain ⟨R, hR⟩ : ∃ R, R = shr 64 N D := ⟨_, rfl⟩
  rw [← hR]
  have hNf : N < 10 ^ 64 := Nat.lt_of_lt_of_le hvb.1 (by decide)
  have hN1 := hvb.1
  have hDle := hvb.2.1
  simp -dsimp -implicitDefEqProofs (disch := first | omega | (simp only [List.length_append, List.length_cons, List.length_nil, List.length_take, List.length_drop]; omega)) only [hs, ↓aPre, aPost, oneW, allOne, retV, retVA, simprocAttr]
  refine loop_of (fun s => ∃ f n d : Nat, n < 10 ^ f ∧ n < 4294967296000000000 ∧ d ≤ 1000000000 ∧ R = shr f n d ∧ s.tm 17 = .d (.c (.int .u64 n)) ∧ s.tm 16 = .d (.c (.int .u64 d)) ∧ s.tm 2 = .ptr 2 0 ∧ s.hp 2 = some (.box [.d (.c (.int .u32 0)), .d (.c (.int .u32 0))])) (fun s => (avN (s.tm 17)).toNat) ?_ ?_
  · refine ⟨64, N, D, hNf, hN1, hDle, hR, ?_⟩
    simp -dsimp -implicitDefEqProofs (disch := first | omega | (simp only [List.length_append, List.length_cons, List.length_nil, List.length_take, List.length_drop]; omega)) only [hs, ↓aPre, aPost, oneW, allOne, retV, retVA, simprocAttr]
  clear hs hvb hk hlt
  rintro s ⟨f, x, y, hx, hx2, hy, hRe, hs⟩
  have m1 : (x : Int).tmod 10 = ((x % 10 : Nat) : Int) := by rw [Int.tmod_eq_emod_of_nonneg (by omega)]; rfl
  have m2 : (y : Int).tmod 10 = ((y % 10 : Nat) : Int) := by rw [Int.tmod_eq_emod_of_nonneg (by omega)]; rfl
  by_cases c : 4294967295 < x ∧ x % 10 = 0 ∧ y % 10 = 0
  · obtain ⟨g, hg, hsh, hgl⟩ := shr_t hx c
    obtain ⟨c1', c2', c3'⟩ := c
    have d1 : (x : Int).tdiv 10 = ((x / 10 : Nat) : Int) := by rw [Int.tdiv_eq_ediv_of_nonneg (by omega)]; rfl
    have d2 : (y : Int).tdiv 10 = ((y / 10 : Nat) : Int) := by rw [Int.tdiv_eq_ediv_of_nonneg (by omega)]; rfl
    have hxl : x / 10 < x := by omega
    obtain ⟨x', hx'⟩ : ∃ x', x' = x / 10 := ⟨_, rfl⟩
    obtain ⟨y', hy'⟩ : ∃ y', y' = y / 10 := ⟨_, rfl⟩
    rw [← hx'] at d1 hgl hsh hxl
    rw [← hy'] at d2 hsh
    rw [c2'] at m1
    rw [c3'] at m2
    simp -dsimp -implicitDefEqProofs (disch := first | omega | (simp only [List.length_append, List.length_cons, List.length_nil, List.length_take, List.length_drop]; omega)) only [hs, m1, m2, d1, d2, Int.natCast_zero, ↓aPre, aPost, oneW, allOne, retV, retVA, simprocAttr]
    refine round_of ⟨g, x', y', hgl, by omega, by omega, by rw [hRe, hsh], ?_⟩ ?_
    · simp -dsimp -implicitDefEqProofs (disch := first | omega | (simp only [List.length_append, List.length_cons, List.length_nil, List.length_take, List.length_drop]; omega)) only [hs, ↓aPre, aPost, oneW, allOne, retV, retVA, simprocAttr]
    · simp -dsimp -implicitDefEqProofs (disch := first | omega | (simp only [List.length_append, List.length_cons, List.length_nil, List.length_take, List.length_drop]; omega)) only [hs, ↓aPre, aPost, oneW, allOne, retV, retVA, simprocAttr]
      omega
  · rw [shr_f c] at hRe
    subst hRe
    have hfin : ∀ {P : Prop}, (¬ 4294967295 < x → P) → (4294967295 < x → ¬ x % 10 = 0 → P) → (4294967295 < x → x % 10 = 0 → ¬ y % 10 = 0 → P) → P := fun k1 k2 k3 => by
      by_cases c1 : 4294967295 < x
      · by_cases c2 : x % 10 = 0
        · exact k3 c1 c2 (fun c3 => c ⟨c1, c2, c3⟩)
        · exact k2 c1 c2
      · exact k1 c1
    refine hfin (fun c1 => ?_) (fun c1 c2 => ?_) (fun c1 c2 c3 => ?_)
    · simp only [if_neg c1]
      simp -dsimp -implicitDefEqProofs (disch := first | omega | (simp only [List.length_append, List.length_cons, List.length_nil, List.length_take, List.length_drop]; omega)) only [hs, ↓aPre, aPost, oneW, allOne, retV, retVA, simprocAttr]
      exact post_eq rfl
    · have z1 : ¬ ((x % 10 : Nat) : Int) = 0 := by omega
      simp only [if_pos c1]
      obtain ⟨u, hu⟩ : ∃ u, u = x % 10 := ⟨_, rfl⟩
      rw [← hu] at z1 m1
      simp -dsimp -implicitDefEqProofs (disch := first | omega | (simp only [List.length_append, List.length_cons, List.length_nil, List.length_take, List.length_drop]; omega)) only [hs, m1, z1, ↓aPre, aPost, oneW, allOne, retV, retVA, simprocAttr]
      exact post_eq rfl
    · have z1 : ¬ ((y % 10 : Nat) : Int) = 0 := by omega
      simp only [if_pos c1]
      obtain ⟨u, hu⟩ : ∃ u, u = y % 10 := ⟨_, rfl⟩
      rw [← hu] at z1 m2
      rw [c2] at m1
      simp -dsimp -implicitDefEqProofs (disch := first | omega | (simp only [List.length_append, List.length_cons, List.length_nil, List.length_take, List.length_drop]; omega)) only [hs, m1, m2, z1, Int.natCast_zero, ↓aPre, aPost, oneW, allOne, retV, retVA, simprocAttr]
      exact post_eq rfl
end Go.Proofs.YtlonmloicafejaaDoor

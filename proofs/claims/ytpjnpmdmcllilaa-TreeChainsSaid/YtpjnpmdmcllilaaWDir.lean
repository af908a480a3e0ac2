/- A directory, read: by the program and by the reference. No condition but what each says. -/
import Derived.Test.YtpjnpmdmcllilaaWEnt
set_option linter.unusedSimpArgs false
set_option linter.unusedVariables false
set_option maxRecDepth 8000
set_option maxHeartbeats 4000000
namespace Go.Proofs.Ytpjnpmdmcllilaa
open Go.Eng Go.RowKit
abbrev Dr := Int × Int × List Fld
def dirD (d : Dr) : D := .agg [.c (.int .u64 d.1), .c (.int .u64 d.2.1), .lst 3 (d.2.2.map fldD)]
def dirE (d : Dr × Int) : List D := [dirD d.1, .c (.int .i64 d.2)]
def ct (large : Bool) : Nat := if large = true then 8 else 2
def en (large : Bool) : Nat := if large = true then 20 else 12
/-- so many entries from a place on, behind a tag, behind some fields -/
def rdS (b : List Int) (big large : Bool) : Nat → Nat → Int → List Fld → List Fld × Int
  | 0, _, _, acc => (acc, 0)
  | k + 1, p, was, acc =>
    if b.length < p + en large then ([], 2)
    else if gk ((b.drop p).take (en large)) 0 2 big ≤ was then ([], 3)
    else if (entS b ((b.drop p).take (en large)) big large).2 ≠ 0 then ([], (entS b ((b.drop p).take (en large)) big large).2)
    else rdS b big large k (p + en large) (gk ((b.drop p).take (en large)) 0 2 big) (acc ++ (entS b ((b.drop p).take (en large)) big large).1.toList)
def dirS (b : List Int) (big large : Bool) (at_ : Nat) : Dr × Int :=
  if b.length < at_ + ct large then ((0, 0, []), 2)
  else if gk b at_ (ct large) big > 64 then ((0, 0, []), 8)
  else if (rdS b big large (gk b at_ (ct large) big).toNat (at_ + ct large) (-1) []).2 ≠ 0 then ((0, 0, []), (rdS b big large (gk b at_ (ct large) big).toNat (at_ + ct large) (-1) []).2)
  else if b.length < at_ + ct large + (gk b at_ (ct large) big).toNat * en large + wd large then ((0, 0, []), 2)
  else ((at_, gk b (at_ + ct large + (gk b at_ (ct large) big).toNat * en large) (wd large) big, (rdS b big large (gk b at_ (ct large) big).toNat (at_ + ct large) (-1) []).1), 0)
theorem get_any_f (b : List Int) (p n : Nat) (big : Bool) (hn : sizedP (n : Int)) (hl : b.length ≤ 1000000) (h : b.length < p + n) (hp : p < 18446744073709551616) : Giv Try.prog 26 [.lst 1 (li .u8 b), .c (.int .u64 p), .c (.int .i64 n), .c (.bool big)] (retV [.c (.int .u64 0), .c (.int .i64 2)]) := by
  refine Giv.of mixed c26 (Nat.le_of_ble_eq_true rfl) ?_
  have hn8 : n ≤ 8 := by unfold sizedP at hn; omega
  simp -dsimp -implicitDefEqProofs (disch := first | omega | (simp only [List.length_append, List.length_cons, List.length_nil, List.length_take, List.length_drop]; omega)) only [a26, ↓aPre, aPost, oneW, allOne, retV, retVA, simprocAttr]
  refine call_giv (sized_t hn) ?_
  simp -dsimp -implicitDefEqProofs (disch := first | omega | (simp only [List.length_append, List.length_cons, List.length_nil, List.length_take, List.length_drop]; omega)) only [↓aPre, aPost, oneW, allOne, retV, retVA, simprocAttr]
  refine call_giv (win_any_f b p n hl h hp (by omega)) ?_
  simp -dsimp -implicitDefEqProofs (disch := first | omega | (simp only [List.length_append, List.length_cons, List.length_nil, List.length_take, List.length_drop]; omega)) only [↓aPre, aPost, oneW, allOne, retV, retVA, simprocAttr]
  exact post_eq rfl
theorem ent_some {b w : List Int} {big large : Bool} : (∃ f, entS b w big large = (some f, 0)) ∨ (∃ e, entS b w big large = (none, e)) := by
  unfold entS
  split
  · exact .inr ⟨_, rfl⟩
  · split
    · exact .inr ⟨_, rfl⟩
    · split
      · split
        · exact .inr ⟨_, rfl⟩
        · exact .inl ⟨_, rfl⟩
      · exact .inl ⟨_, rfl⟩
theorem map_snoc (acc : List Fld) (f : Fld) : (acc ++ [f]).map fldD = acc.map fldD ++ [fldD f] := by simp

theorem readS_giv (b : List Int) (big : Bool) (first : Int) (at_ : Nat) (hl : b.length ≤ 100000) (hB : Bytes b) (ha : at_ < 18446744073709551616) :
    Giv Try.prog 16 [.lst 1 (li .u8 b), hD big false first, .c (.int .u64 at_)] (retV (dirE (dirS b big false at_))) := by
  have hct : ct false = 2 := rfl
  have hen : en false = 12 := rfl
  have hwd : wd false = 4 := rfl
  unfold dirS
  rw [hct, hen, hwd]
  have hsz := sizes_giv false
  by_cases h1 : b.length < at_ + 2
  · rw [if_pos h1]
    have hg := get_any_f b at_ 2 big (.inr (.inl rfl)) (by omega) h1 ha
    refine Giv.of mixed c16 (Nat.le_of_ble_eq_true rfl) ?_
    simp -dsimp -implicitDefEqProofs (disch := first | omega | (simp only [List.length_append, List.length_cons, List.length_nil, List.length_take, List.length_drop]; omega)) only [a16, hD, dirE, dirD, ↓aPre, aPost, oneW, allOne, retV, retVA, simprocAttr]
    refine call_giv hsz ?_
    simp -dsimp -implicitDefEqProofs (disch := first | omega | (simp only [List.length_append, List.length_cons, List.length_nil, List.length_take, List.length_drop]; omega)) only [↓aPre, aPost, oneW, allOne, retV, retVA, simprocAttr]
    refine call_giv hg ?_
    simp -dsimp -implicitDefEqProofs (disch := first | omega | (simp only [List.length_append, List.length_cons, List.length_nil, List.length_take, List.length_drop]; omega)) only [↓aPre, aPost, oneW, allOne, retV, retVA, simprocAttr]
    exact post_le (by repeat (first | exact leD.nil | exact leE.refl _ | exact leE.nil _ | refine leD.cons ?_ ?_ | refine leE.agg ?_))
  rw [if_neg h1]
  have hg := get_k b at_ 2 big (.inr (.inl rfl)) hl hB (by omega)
  have hnb := gk_b hB at_ 2 big (by decide)
  obtain ⟨n, hn⟩ : ∃ n : Nat, (n : Int) = gk b at_ 2 big := ⟨(gk b at_ 2 big).toNat, by omega⟩
  rw [← hn] at hg ⊢
  by_cases h2 : (n : Int) > 64
  · rw [if_pos h2]
    refine Giv.of mixed c16 (Nat.le_of_ble_eq_true rfl) ?_
    simp -dsimp -implicitDefEqProofs (disch := first | omega | (simp only [List.length_append, List.length_cons, List.length_nil, List.length_take, List.length_drop]; omega)) only [a16, hD, dirE, dirD, ↓aPre, aPost, oneW, allOne, retV, retVA, simprocAttr]
    refine call_giv hsz ?_
    simp -dsimp -implicitDefEqProofs (disch := first | omega | (simp only [List.length_append, List.length_cons, List.length_nil, List.length_take, List.length_drop]; omega)) only [↓aPre, aPost, oneW, allOne, retV, retVA, simprocAttr]
    refine call_giv hg ?_
    simp -dsimp -implicitDefEqProofs (disch := first | omega | (simp only [List.length_append, List.length_cons, List.length_nil, List.length_take, List.length_drop]; omega)) only [h2, ↓aPre, aPost, oneW, allOne, retV, retVA, simprocAttr]
    exact post_le (by repeat (first | exact leD.nil | exact leE.refl _ | exact leE.nil _ | refine leD.cons ?_ ?_ | refine leE.agg ?_))
  rw [if_neg h2, Int.toNat_natCast]
  obtain ⟨S, hS⟩ : ∃ S, S = rdS b big false n (at_ + 2) (-1) [] := ⟨_, rfl⟩
  rw [← hS]
  refine Giv.of mixed c16 (Nat.le_of_ble_eq_true rfl) ?_
  simp -dsimp -implicitDefEqProofs (disch := first | omega | (simp only [List.length_append, List.length_cons, List.length_nil, List.length_take, List.length_drop]; omega)) only [a16, hD, ↓aPre, aPost, oneW, allOne, retV, retVA, simprocAttr]
  refine call_giv hsz ?_
  simp -dsimp -implicitDefEqProofs (disch := first | omega | (simp only [List.length_append, List.length_cons, List.length_nil, List.length_take, List.length_drop]; omega)) only [↓aPre, aPost, oneW, allOne, retV, retVA, simprocAttr]
  refine call_giv hg ?_
  simp -dsimp -implicitDefEqProofs (disch := first | omega | (simp only [List.length_append, List.length_cons, List.length_nil, List.length_take, List.length_drop]; omega)) only [h2, ↓aPre, aPost, oneW, allOne, retV, retVA, simprocAttr]
  refine loop_nilB 13 2 100 3 [.d (.c (.int .u64 at_)), .d (.c (.int .u64 0)), .d (.c (.slice none 0 0))] (fun s => ∃ (i : Nat) (was : Int) (acc : List Fld), i ≤ n ∧ S = rdS b big false (n - i) (at_ + 2 + i * 12) was acc ∧ acc.length ≤ i ∧ (-1 ≤ was ∧ was < 65536) ∧ at_ + 2 + i * 12 ≤ b.length ∧ s.tm 55 = .d (.c (.int .u64 i)) ∧ s.tm 54 = .d (.c (.int .u64 n)) ∧ s.tm 11 = .d (.c (.int .u64 n)) ∧ s.tm 0 = .d (.lst 1 (li .u8 b)) ∧ s.tm 4 = .ptr 4 0 ∧ s.hp 4 = some (.box [.d (.c (.bool big)), .d (.c (.bool false)), .d (.c (.int .u64 first))]) ∧ s.tm 6 = .ptr 6 0 ∧ s.hp 6 = some (.box [.d (.c (.int .u64 0)), .d (.c (.int .u64 0)), .d (.c (.slice none 0 0))]) ∧ s.tm 9 = .d (.c (.int .i64 12)) ∧ s.tm 10 = .d (.c (.int .i64 4)) ∧ s.tm 14 = .d (.c (.int .u64 (at_ + 2))) ∧ s.tm 15 = .d (.c (.int .i64 was)) ∧ s.tm 13 = .ptr 13 0 ∧ s.hp 13 = some (.box [.d (.c (.int .u64 at_)), .d (.c (.int .u64 0)), .sl 100 3 0 acc.length]) ∧ s.hp 100 = some (.row 3 (acc.map fldD))) (fun s => n - (avN (s.tm 55)).toNat) ?_ rfl (by decide) (by decide) ?_ ?_
  · simp -dsimp -implicitDefEqProofs (disch := first | omega | (simp only [List.length_append, List.length_cons, List.length_nil, List.length_take, List.length_drop]; omega)) only [↓aPre, aPost, oneW, allOne, retV, retVA, simprocAttr]
  · refine ⟨0, -1, [], Nat.zero_le _, by rw [hS, Nat.sub_zero, Nat.zero_mul, Nat.add_zero], Nat.le_refl _, by decide, by omega, ?_⟩
    simp -dsimp -implicitDefEqProofs (disch := first | omega | (simp only [List.length_append, List.length_cons, List.length_nil, List.length_take, List.length_drop]; omega)) only [Int.natCast_zero, ↓aPre, aPost, oneW, allOne, retV, retVA, simprocAttr]
    rfl
  rintro s ⟨i, was, acc, hi, hSi, hacc, hwas, hpl, hs⟩
  obtain ⟨p, hp⟩ : ∃ p, p = at_ + 2 + i * 12 := ⟨_, rfl⟩
  have hpi : (at_ : Int) + 2 + (i : Int) * 12 = (p : Int) := by omega
  rw [← hp] at hSi
  by_cases hlt : i < n
  · rw [show n - i = (n - (i + 1)) + 1 by omega, rdS, hen] at hSi
    by_cases hw : b.length < p + 12
    · rw [if_pos hw] at hSi
      have hwin := win_any_f b p 12 (by omega) hw (by omega) (by decide)
      simp -dsimp -implicitDefEqProofs (disch := first | omega | (simp only [List.length_append, List.length_cons, List.length_nil, List.length_take, List.length_drop]; omega)) only [hs, hpi, ↓aPre, aPost, oneW, allOne, retV, retVA, simprocAttr]
      refine call_giv hwin ?_
      simp -dsimp -implicitDefEqProofs (disch := first | omega | (simp only [List.length_append, List.length_cons, List.length_nil, List.length_take, List.length_drop]; omega)) only [hs, ↓aPre, aPost, oneW, allOne, retV, retVA, simprocAttr]
      rw [hSi]
      exact post_le (by
        rw [if_pos (by decide)]
        repeat (first | exact leD.nil | exact leE.refl _ | exact leE.nil _ | refine leD.cons ?_ ?_ | refine leE.agg ?_))
    rw [if_neg hw] at hSi
    have hwin := win_t b p 12 (by omega) (by omega)
    obtain ⟨w, hwe⟩ : ∃ w, w = (b.drop p).take 12 := ⟨_, rfl⟩
    have hwl : w.length = 12 := by rw [hwe, List.length_take, List.length_drop]; omega
    have hwB : Bytes w := by rw [hwe]; exact (hB.drop _).take _
    rw [← hwe] at hwin hSi
    have gt := get_k w 0 2 big (.inr (.inl rfl)) (by omega) hwB (by omega)
    have gtb := gk_2 hwB 0 big
    have hf := field_giv b w big false first hl hB (by rw [hwl, hwd]) hwB
    rw [hwd] at hf
    obtain ⟨t, ht⟩ : ∃ t, t = gk w 0 2 big := ⟨_, rfl⟩
    rw [← ht] at gt gtb hSi
    by_cases hle : t ≤ was
    · rw [if_pos hle] at hSi
      simp -dsimp -implicitDefEqProofs (disch := first | omega | (simp only [List.length_append, List.length_cons, List.length_nil, List.length_take, List.length_drop]; omega)) only [hs, hpi, ↓aPre, aPost, oneW, allOne, retV, retVA, simprocAttr]
      refine call_giv hwin ?_
      simp -dsimp -implicitDefEqProofs (disch := first | omega | (simp only [List.length_append, List.length_cons, List.length_nil, List.length_take, List.length_drop]; omega)) only [hs, ↓aPre, aPost, oneW, allOne, retV, retVA, simprocAttr]
      refine call_giv gt ?_
      simp -dsimp -implicitDefEqProofs (disch := first | omega | (simp only [List.length_append, List.length_cons, List.length_nil, List.length_take, List.length_drop]; omega)) only [hs, hle, ↓aPre, aPost, oneW, allOne, retV, retVA, simprocAttr]
      rw [hSi]
      exact post_le (by
        rw [if_pos (by decide)]
        repeat (first | exact leD.nil | exact leE.refl _ | exact leE.nil _ | refine leD.cons ?_ ?_ | refine leE.agg ?_))
    rw [if_neg hle] at hSi
    rcases ent_some (b := b) (w := w) (big := big) (large := false) with ⟨f, hfe⟩ | ⟨e, hfe⟩
    · rw [hfe] at hSi hf
      rw [if_neg (fun h => h rfl)] at hSi
      have hms := map_snoc acc f
      have hml : (acc.map fldD).length = acc.length := by simp
      have hl1 : (acc ++ [f]).length = acc.length + 1 := by simp
      simp -dsimp -implicitDefEqProofs (disch := first | omega | (simp only [List.length_append, List.length_cons, List.length_nil, List.length_take, List.length_drop]; omega)) only [hs, hpi, ↓aPre, aPost, oneW, allOne, retV, retVA, simprocAttr]
      refine call_giv hwin ?_
      simp -dsimp -implicitDefEqProofs (disch := first | omega | (simp only [List.length_append, List.length_cons, List.length_nil, List.length_take, List.length_drop]; omega)) only [hs, ↓aPre, aPost, oneW, allOne, retV, retVA, simprocAttr]
      refine call_giv gt ?_
      simp -dsimp -implicitDefEqProofs (disch := first | omega | (simp only [List.length_append, List.length_cons, List.length_nil, List.length_take, List.length_drop]; omega)) only [hs, hle, ↓aPre, aPost, oneW, allOne, retV, retVA, simprocAttr]
      refine call_giv hf ?_
      simp -dsimp -implicitDefEqProofs (disch := first | omega | (simp only [List.length_append, List.length_cons, List.length_nil, List.length_take, List.length_drop]; omega)) only [hs, entD, fldD, hml, ↓aPre, aPost, oneW, allOne, retV, retVA, simprocAttr]
      refine round_of ⟨i + 1, t, acc ++ [f], by omega, by rw [hSi, hp]; congr 1; omega, by rw [hl1]; omega, by omega, by omega, ?_⟩ ?_
      · simp -dsimp -implicitDefEqProofs (disch := first | omega | (simp only [List.length_append, List.length_cons, List.length_nil, List.length_take, List.length_drop]; omega)) only [hs, hms, hl1, fldD, hml, ↓aPre, aPost, oneW, allOne, retV, retVA, simprocAttr]
      · simp -dsimp -implicitDefEqProofs (disch := first | omega | (simp only [List.length_append, List.length_cons, List.length_nil, List.length_take, List.length_drop]; omega)) only [hs, ↓aPre, aPost, oneW, allOne, retV, retVA, simprocAttr]
        omega
    · rw [hfe] at hSi hf
      by_cases he : e = 0
      · subst he
        rw [if_neg (fun h => h rfl)] at hSi
        simp -dsimp -implicitDefEqProofs (disch := first | omega | (simp only [List.length_append, List.length_cons, List.length_nil, List.length_take, List.length_drop]; omega)) only [hs, hpi, ↓aPre, aPost, oneW, allOne, retV, retVA, simprocAttr]
        refine call_giv hwin ?_
        simp -dsimp -implicitDefEqProofs (disch := first | omega | (simp only [List.length_append, List.length_cons, List.length_nil, List.length_take, List.length_drop]; omega)) only [hs, ↓aPre, aPost, oneW, allOne, retV, retVA, simprocAttr]
        refine call_giv gt ?_
        simp -dsimp -implicitDefEqProofs (disch := first | omega | (simp only [List.length_append, List.length_cons, List.length_nil, List.length_take, List.length_drop]; omega)) only [hs, hle, ↓aPre, aPost, oneW, allOne, retV, retVA, simprocAttr]
        refine call_giv hf ?_
        simp -dsimp -implicitDefEqProofs (disch := first | omega | (simp only [List.length_append, List.length_cons, List.length_nil, List.length_take, List.length_drop]; omega)) only [hs, entD, fld0, ↓aPre, aPost, oneW, allOne, retV, retVA, simprocAttr]
        refine round_of ⟨i + 1, t, acc, by omega, by rw [hSi, Option.toList, List.append_nil, hp]; congr 1; omega, by omega, by omega, by omega, ?_⟩ ?_
        · simp -dsimp -implicitDefEqProofs (disch := first | omega | (simp only [List.length_append, List.length_cons, List.length_nil, List.length_take, List.length_drop]; omega)) only [hs, ↓aPre, aPost, oneW, allOne, retV, retVA, simprocAttr]
        · simp -dsimp -implicitDefEqProofs (disch := first | omega | (simp only [List.length_append, List.length_cons, List.length_nil, List.length_take, List.length_drop]; omega)) only [hs, ↓aPre, aPost, oneW, allOne, retV, retVA, simprocAttr]
          omega
      · rw [if_pos he] at hSi
        have he' := ibne_t he
        simp -dsimp -implicitDefEqProofs (disch := first | omega | (simp only [List.length_append, List.length_cons, List.length_nil, List.length_take, List.length_drop]; omega)) only [hs, hpi, ↓aPre, aPost, oneW, allOne, retV, retVA, simprocAttr]
        refine call_giv hwin ?_
        simp -dsimp -implicitDefEqProofs (disch := first | omega | (simp only [List.length_append, List.length_cons, List.length_nil, List.length_take, List.length_drop]; omega)) only [hs, ↓aPre, aPost, oneW, allOne, retV, retVA, simprocAttr]
        refine call_giv gt ?_
        simp -dsimp -implicitDefEqProofs (disch := first | omega | (simp only [List.length_append, List.length_cons, List.length_nil, List.length_take, List.length_drop]; omega)) only [hs, hle, ↓aPre, aPost, oneW, allOne, retV, retVA, simprocAttr]
        refine call_giv hf ?_
        simp -dsimp -implicitDefEqProofs (disch := first | omega | (simp only [List.length_append, List.length_cons, List.length_nil, List.length_take, List.length_drop]; omega)) only [hs, entD, fld0, he', ↓aPre, aPost, oneW, allOne, retV, retVA, simprocAttr]
        rw [hSi]
        exact post_le (by
          rw [if_pos he]
          repeat (first | exact leD.nil | exact leE.refl _ | exact leE.nil _ | refine leD.cons ?_ ?_ | refine leE.agg ?_))
  · obtain rfl : i = n := by omega
    rw [Nat.sub_self, rdS] at hSi
    rw [hSi]
    rw [if_neg (fun h => h rfl)]
    by_cases h3 : b.length < p + 4
    · have hq := get_any_f b p 4 big (.inr (.inr (.inl rfl))) (by omega) h3 (by omega)
      rw [← hp, if_pos h3]
      simp -dsimp -implicitDefEqProofs (disch := first | omega | (simp only [List.length_append, List.length_cons, List.length_nil, List.length_take, List.length_drop]; omega)) only [hs, hpi, ↓aPre, aPost, oneW, allOne, retV, retVA, simprocAttr]
      refine call_giv hq ?_
      simp -dsimp -implicitDefEqProofs (disch := first | omega | (simp only [List.length_append, List.length_cons, List.length_nil, List.length_take, List.length_drop]; omega)) only [hs, ↓aPre, aPost, oneW, allOne, retV, retVA, simprocAttr]
      exact post_le (by repeat (first | exact leD.nil | exact leE.refl _ | exact leE.nil _ | refine leD.cons ?_ ?_ | refine leE.agg ?_))
    · have hq := get_k b p 4 big (.inr (.inr (.inl rfl))) hl hB (by omega)
      have hml : (acc.map fldD).length = acc.length := by simp
      have htk : (acc.map fldD).take acc.length = acc.map fldD := take_all (by rw [hml]; exact Nat.le_refl _)
      rw [← hp, if_neg h3]
      simp -dsimp -implicitDefEqProofs (disch := first | omega | (simp only [List.length_append, List.length_cons, List.length_nil, List.length_take, List.length_drop]; omega)) only [hs, hpi, ↓aPre, aPost, oneW, allOne, retV, retVA, simprocAttr]
      refine call_giv hq ?_
      simp -dsimp -implicitDefEqProofs (disch := first | omega | (simp only [List.length_append, List.length_cons, List.length_nil, List.length_take, List.length_drop]; omega)) only [hs, hml, htk, ↓aPre, aPost, oneW, allOne, retV, retVA, simprocAttr]
      exact post_eq rfl
theorem readL_giv (b : List Int) (big : Bool) (first : Int) (at_ : Nat) (hl : b.length ≤ 100000) (hB : Bytes b) (ha : at_ < 18446744073709551616) :
    Giv Try.prog 16 [.lst 1 (li .u8 b), hD big true first, .c (.int .u64 at_)] (retV (dirE (dirS b big true at_))) := by
  have hct : ct true = 8 := rfl
  have hen : en true = 20 := rfl
  have hwd : wd true = 8 := rfl
  unfold dirS
  rw [hct, hen, hwd]
  have hsz := sizes_giv true
  by_cases h1 : b.length < at_ + 8
  · rw [if_pos h1]
    have hg := get_any_f b at_ 8 big (.inr (.inr (.inr rfl))) (by omega) h1 ha
    refine Giv.of mixed c16 (Nat.le_of_ble_eq_true rfl) ?_
    simp -dsimp -implicitDefEqProofs (disch := first | omega | (simp only [List.length_append, List.length_cons, List.length_nil, List.length_take, List.length_drop]; omega)) only [a16, hD, dirE, dirD, ↓aPre, aPost, oneW, allOne, retV, retVA, simprocAttr]
    refine call_giv hsz ?_
    simp -dsimp -implicitDefEqProofs (disch := first | omega | (simp only [List.length_append, List.length_cons, List.length_nil, List.length_take, List.length_drop]; omega)) only [↓aPre, aPost, oneW, allOne, retV, retVA, simprocAttr]
    refine call_giv hg ?_
    simp -dsimp -implicitDefEqProofs (disch := first | omega | (simp only [List.length_append, List.length_cons, List.length_nil, List.length_take, List.length_drop]; omega)) only [↓aPre, aPost, oneW, allOne, retV, retVA, simprocAttr]
    exact post_le (by repeat (first | exact leD.nil | exact leE.refl _ | exact leE.nil _ | refine leD.cons ?_ ?_ | refine leE.agg ?_))
  rw [if_neg h1]
  have hg := get_k b at_ 8 big (.inr (.inr (.inr rfl))) hl hB (by omega)
  have hnb := gk_b hB at_ 8 big (by decide)
  obtain ⟨n, hn⟩ : ∃ n : Nat, (n : Int) = gk b at_ 8 big := ⟨(gk b at_ 8 big).toNat, by omega⟩
  rw [← hn] at hg ⊢
  by_cases h2 : (n : Int) > 64
  · rw [if_pos h2]
    refine Giv.of mixed c16 (Nat.le_of_ble_eq_true rfl) ?_
    simp -dsimp -implicitDefEqProofs (disch := first | omega | (simp only [List.length_append, List.length_cons, List.length_nil, List.length_take, List.length_drop]; omega)) only [a16, hD, dirE, dirD, ↓aPre, aPost, oneW, allOne, retV, retVA, simprocAttr]
    refine call_giv hsz ?_
    simp -dsimp -implicitDefEqProofs (disch := first | omega | (simp only [List.length_append, List.length_cons, List.length_nil, List.length_take, List.length_drop]; omega)) only [↓aPre, aPost, oneW, allOne, retV, retVA, simprocAttr]
    refine call_giv hg ?_
    simp -dsimp -implicitDefEqProofs (disch := first | omega | (simp only [List.length_append, List.length_cons, List.length_nil, List.length_take, List.length_drop]; omega)) only [h2, ↓aPre, aPost, oneW, allOne, retV, retVA, simprocAttr]
    exact post_le (by repeat (first | exact leD.nil | exact leE.refl _ | exact leE.nil _ | refine leD.cons ?_ ?_ | refine leE.agg ?_))
  rw [if_neg h2, Int.toNat_natCast]
  obtain ⟨S, hS⟩ : ∃ S, S = rdS b big true n (at_ + 8) (-1) [] := ⟨_, rfl⟩
  rw [← hS]
  refine Giv.of mixed c16 (Nat.le_of_ble_eq_true rfl) ?_
  simp -dsimp -implicitDefEqProofs (disch := first | omega | (simp only [List.length_append, List.length_cons, List.length_nil, List.length_take, List.length_drop]; omega)) only [a16, hD, ↓aPre, aPost, oneW, allOne, retV, retVA, simprocAttr]
  refine call_giv hsz ?_
  simp -dsimp -implicitDefEqProofs (disch := first | omega | (simp only [List.length_append, List.length_cons, List.length_nil, List.length_take, List.length_drop]; omega)) only [↓aPre, aPost, oneW, allOne, retV, retVA, simprocAttr]
  refine call_giv hg ?_
  simp -dsimp -implicitDefEqProofs (disch := first | omega | (simp only [List.length_append, List.length_cons, List.length_nil, List.length_take, List.length_drop]; omega)) only [h2, ↓aPre, aPost, oneW, allOne, retV, retVA, simprocAttr]
  refine loop_nilB 13 2 100 3 [.d (.c (.int .u64 at_)), .d (.c (.int .u64 0)), .d (.c (.slice none 0 0))] (fun s => ∃ (i : Nat) (was : Int) (acc : List Fld), i ≤ n ∧ S = rdS b big true (n - i) (at_ + 8 + i * 20) was acc ∧ acc.length ≤ i ∧ (-1 ≤ was ∧ was < 65536) ∧ at_ + 8 + i * 20 ≤ b.length ∧ s.tm 55 = .d (.c (.int .u64 i)) ∧ s.tm 54 = .d (.c (.int .u64 n)) ∧ s.tm 11 = .d (.c (.int .u64 n)) ∧ s.tm 0 = .d (.lst 1 (li .u8 b)) ∧ s.tm 4 = .ptr 4 0 ∧ s.hp 4 = some (.box [.d (.c (.bool big)), .d (.c (.bool true)), .d (.c (.int .u64 first))]) ∧ s.tm 6 = .ptr 6 0 ∧ s.hp 6 = some (.box [.d (.c (.int .u64 0)), .d (.c (.int .u64 0)), .d (.c (.slice none 0 0))]) ∧ s.tm 9 = .d (.c (.int .i64 20)) ∧ s.tm 10 = .d (.c (.int .i64 8)) ∧ s.tm 14 = .d (.c (.int .u64 (at_ + 8))) ∧ s.tm 15 = .d (.c (.int .i64 was)) ∧ s.tm 13 = .ptr 13 0 ∧ s.hp 13 = some (.box [.d (.c (.int .u64 at_)), .d (.c (.int .u64 0)), .sl 100 3 0 acc.length]) ∧ s.hp 100 = some (.row 3 (acc.map fldD))) (fun s => n - (avN (s.tm 55)).toNat) ?_ rfl (by decide) (by decide) ?_ ?_
  · simp -dsimp -implicitDefEqProofs (disch := first | omega | (simp only [List.length_append, List.length_cons, List.length_nil, List.length_take, List.length_drop]; omega)) only [↓aPre, aPost, oneW, allOne, retV, retVA, simprocAttr]
  · refine ⟨0, -1, [], Nat.zero_le _, by rw [hS, Nat.sub_zero, Nat.zero_mul, Nat.add_zero], Nat.le_refl _, by decide, by omega, ?_⟩
    simp -dsimp -implicitDefEqProofs (disch := first | omega | (simp only [List.length_append, List.length_cons, List.length_nil, List.length_take, List.length_drop]; omega)) only [Int.natCast_zero, ↓aPre, aPost, oneW, allOne, retV, retVA, simprocAttr]
    rfl
  rintro s ⟨i, was, acc, hi, hSi, hacc, hwas, hpl, hs⟩
  obtain ⟨p, hp⟩ : ∃ p, p = at_ + 8 + i * 20 := ⟨_, rfl⟩
  have hpi : (at_ : Int) + 8 + (i : Int) * 20 = (p : Int) := by omega
  rw [← hp] at hSi
  by_cases hlt : i < n
  · rw [show n - i = (n - (i + 1)) + 1 by omega, rdS, hen] at hSi
    by_cases hw : b.length < p + 20
    · rw [if_pos hw] at hSi
      have hwin := win_any_f b p 20 (by omega) hw (by omega) (by decide)
      simp -dsimp -implicitDefEqProofs (disch := first | omega | (simp only [List.length_append, List.length_cons, List.length_nil, List.length_take, List.length_drop]; omega)) only [hs, hpi, ↓aPre, aPost, oneW, allOne, retV, retVA, simprocAttr]
      refine call_giv hwin ?_
      simp -dsimp -implicitDefEqProofs (disch := first | omega | (simp only [List.length_append, List.length_cons, List.length_nil, List.length_take, List.length_drop]; omega)) only [hs, ↓aPre, aPost, oneW, allOne, retV, retVA, simprocAttr]
      rw [hSi]
      exact post_le (by
        rw [if_pos (by decide)]
        repeat (first | exact leD.nil | exact leE.refl _ | exact leE.nil _ | refine leD.cons ?_ ?_ | refine leE.agg ?_))
    rw [if_neg hw] at hSi
    have hwin := win_t b p 20 (by omega) (by omega)
    obtain ⟨w, hwe⟩ : ∃ w, w = (b.drop p).take 20 := ⟨_, rfl⟩
    have hwl : w.length = 20 := by rw [hwe, List.length_take, List.length_drop]; omega
    have hwB : Bytes w := by rw [hwe]; exact (hB.drop _).take _
    rw [← hwe] at hwin hSi
    have gt := get_k w 0 2 big (.inr (.inl rfl)) (by omega) hwB (by omega)
    have gtb := gk_2 hwB 0 big
    have hf := field_giv b w big true first hl hB (by rw [hwl, hwd]) hwB
    rw [hwd] at hf
    obtain ⟨t, ht⟩ : ∃ t, t = gk w 0 2 big := ⟨_, rfl⟩
    rw [← ht] at gt gtb hSi
    by_cases hle : t ≤ was
    · rw [if_pos hle] at hSi
      simp -dsimp -implicitDefEqProofs (disch := first | omega | (simp only [List.length_append, List.length_cons, List.length_nil, List.length_take, List.length_drop]; omega)) only [hs, hpi, ↓aPre, aPost, oneW, allOne, retV, retVA, simprocAttr]
      refine call_giv hwin ?_
      simp -dsimp -implicitDefEqProofs (disch := first | omega | (simp only [List.length_append, List.length_cons, List.length_nil, List.length_take, List.length_drop]; omega)) only [hs, ↓aPre, aPost, oneW, allOne, retV, retVA, simprocAttr]
      refine call_giv gt ?_
      simp -dsimp -implicitDefEqProofs (disch := first | omega | (simp only [List.length_append, List.length_cons, List.length_nil, List.length_take, List.length_drop]; omega)) only [hs, hle, ↓aPre, aPost, oneW, allOne, retV, retVA, simprocAttr]
      rw [hSi]
      exact post_le (by
        rw [if_pos (by decide)]
        repeat (first | exact leD.nil | exact leE.refl _ | exact leE.nil _ | refine leD.cons ?_ ?_ | refine leE.agg ?_))
    rw [if_neg hle] at hSi
    rcases ent_some (b := b) (w := w) (big := big) (large := true) with ⟨f, hfe⟩ | ⟨e, hfe⟩
    · rw [hfe] at hSi hf
      rw [if_neg (fun h => h rfl)] at hSi
      have hms := map_snoc acc f
      have hml : (acc.map fldD).length = acc.length := by simp
      have hl1 : (acc ++ [f]).length = acc.length + 1 := by simp
      simp -dsimp -implicitDefEqProofs (disch := first | omega | (simp only [List.length_append, List.length_cons, List.length_nil, List.length_take, List.length_drop]; omega)) only [hs, hpi, ↓aPre, aPost, oneW, allOne, retV, retVA, simprocAttr]
      refine call_giv hwin ?_
      simp -dsimp -implicitDefEqProofs (disch := first | omega | (simp only [List.length_append, List.length_cons, List.length_nil, List.length_take, List.length_drop]; omega)) only [hs, ↓aPre, aPost, oneW, allOne, retV, retVA, simprocAttr]
      refine call_giv gt ?_
      simp -dsimp -implicitDefEqProofs (disch := first | omega | (simp only [List.length_append, List.length_cons, List.length_nil, List.length_take, List.length_drop]; omega)) only [hs, hle, ↓aPre, aPost, oneW, allOne, retV, retVA, simprocAttr]
      refine call_giv hf ?_
      simp -dsimp -implicitDefEqProofs (disch := first | omega | (simp only [List.length_append, List.length_cons, List.length_nil, List.length_take, List.length_drop]; omega)) only [hs, entD, fldD, hml, ↓aPre, aPost, oneW, allOne, retV, retVA, simprocAttr]
      refine round_of ⟨i + 1, t, acc ++ [f], by omega, by rw [hSi, hp]; congr 1; omega, by rw [hl1]; omega, by omega, by omega, ?_⟩ ?_
      · simp -dsimp -implicitDefEqProofs (disch := first | omega | (simp only [List.length_append, List.length_cons, List.length_nil, List.length_take, List.length_drop]; omega)) only [hs, hms, hl1, fldD, hml, ↓aPre, aPost, oneW, allOne, retV, retVA, simprocAttr]
      · simp -dsimp -implicitDefEqProofs (disch := first | omega | (simp only [List.length_append, List.length_cons, List.length_nil, List.length_take, List.length_drop]; omega)) only [hs, ↓aPre, aPost, oneW, allOne, retV, retVA, simprocAttr]
        omega
    · rw [hfe] at hSi hf
      by_cases he : e = 0
      · subst he
        rw [if_neg (fun h => h rfl)] at hSi
        simp -dsimp -implicitDefEqProofs (disch := first | omega | (simp only [List.length_append, List.length_cons, List.length_nil, List.length_take, List.length_drop]; omega)) only [hs, hpi, ↓aPre, aPost, oneW, allOne, retV, retVA, simprocAttr]
        refine call_giv hwin ?_
        simp -dsimp -implicitDefEqProofs (disch := first | omega | (simp only [List.length_append, List.length_cons, List.length_nil, List.length_take, List.length_drop]; omega)) only [hs, ↓aPre, aPost, oneW, allOne, retV, retVA, simprocAttr]
        refine call_giv gt ?_
        simp -dsimp -implicitDefEqProofs (disch := first | omega | (simp only [List.length_append, List.length_cons, List.length_nil, List.length_take, List.length_drop]; omega)) only [hs, hle, ↓aPre, aPost, oneW, allOne, retV, retVA, simprocAttr]
        refine call_giv hf ?_
        simp -dsimp -implicitDefEqProofs (disch := first | omega | (simp only [List.length_append, List.length_cons, List.length_nil, List.length_take, List.length_drop]; omega)) only [hs, entD, fld0, ↓aPre, aPost, oneW, allOne, retV, retVA, simprocAttr]
        refine round_of ⟨i + 1, t, acc, by omega, by rw [hSi, Option.toList, List.append_nil, hp]; congr 1; omega, by omega, by omega, by omega, ?_⟩ ?_
        · simp -dsimp -implicitDefEqProofs (disch := first | omega | (simp only [List.length_append, List.length_cons, List.length_nil, List.length_take, List.length_drop]; omega)) only [hs, ↓aPre, aPost, oneW, allOne, retV, retVA, simprocAttr]
        · simp -dsimp -implicitDefEqProofs (disch := first | omega | (simp only [List.length_append, List.length_cons, List.length_nil, List.length_take, List.length_drop]; omega)) only [hs, ↓aPre, aPost, oneW, allOne, retV, retVA, simprocAttr]
          omega
      · rw [if_pos he] at hSi
        have he' := ibne_t he
        simp -dsimp -implicitDefEqProofs (disch := first | omega | (simp only [List.length_append, List.length_cons, List.length_nil, List.length_take, List.length_drop]; omega)) only [hs, hpi, ↓aPre, aPost, oneW, allOne, retV, retVA, simprocAttr]
        refine call_giv hwin ?_
        simp -dsimp -implicitDefEqProofs (disch := first | omega | (simp only [List.length_append, List.length_cons, List.length_nil, List.length_take, List.length_drop]; omega)) only [hs, ↓aPre, aPost, oneW, allOne, retV, retVA, simprocAttr]
        refine call_giv gt ?_
        simp -dsimp -implicitDefEqProofs (disch := first | omega | (simp only [List.length_append, List.length_cons, List.length_nil, List.length_take, List.length_drop]; omega)) only [hs, hle, ↓aPre, aPost, oneW, allOne, retV, retVA, simprocAttr]
        refine call_giv hf ?_
        simp -dsimp -implicitDefEqProofs (disch := first | omega | (simp only [List.length_append, List.length_cons, List.length_nil, List.length_take, List.length_drop]; omega)) only [hs, entD, fld0, he', ↓aPre, aPost, oneW, allOne, retV, retVA, simprocAttr]
        rw [hSi]
        exact post_le (by
          rw [if_pos he]
          repeat (first | exact leD.nil | exact leE.refl _ | exact leE.nil _ | refine leD.cons ?_ ?_ | refine leE.agg ?_))
  · obtain rfl : i = n := by omega
    rw [Nat.sub_self, rdS] at hSi
    rw [hSi]
    rw [if_neg (fun h => h rfl)]
    by_cases h3 : b.length < p + 8
    · have hq := get_any_f b p 8 big (.inr (.inr (.inr rfl))) (by omega) h3 (by omega)
      rw [← hp, if_pos h3]
      simp -dsimp -implicitDefEqProofs (disch := first | omega | (simp only [List.length_append, List.length_cons, List.length_nil, List.length_take, List.length_drop]; omega)) only [hs, hpi, ↓aPre, aPost, oneW, allOne, retV, retVA, simprocAttr]
      refine call_giv hq ?_
      simp -dsimp -implicitDefEqProofs (disch := first | omega | (simp only [List.length_append, List.length_cons, List.length_nil, List.length_take, List.length_drop]; omega)) only [hs, ↓aPre, aPost, oneW, allOne, retV, retVA, simprocAttr]
      exact post_le (by repeat (first | exact leD.nil | exact leE.refl _ | exact leE.nil _ | refine leD.cons ?_ ?_ | refine leE.agg ?_))
    · have hq := get_k b p 8 big (.inr (.inr (.inr rfl))) hl hB (by omega)
      have hml : (acc.map fldD).length = acc.length := by simp
      have htk : (acc.map fldD).take acc.length = acc.map fldD := take_all (by rw [hml]; exact Nat.le_refl _)
      rw [← hp, if_neg h3]
      simp -dsimp -implicitDefEqProofs (disch := first | omega | (simp only [List.length_append, List.length_cons, List.length_nil, List.length_take, List.length_drop]; omega)) only [hs, hpi, ↓aPre, aPost, oneW, allOne, retV, retVA, simprocAttr]
      refine call_giv hq ?_
      simp -dsimp -implicitDefEqProofs (disch := first | omega | (simp only [List.length_append, List.length_cons, List.length_nil, List.length_take, List.length_drop]; omega)) only [hs, hml, htk, ↓aPre, aPost, oneW, allOne, retV, retVA, simprocAttr]
      exact post_eq rfl
end Go.Proofs.Ytpjnpmdmcllilaa

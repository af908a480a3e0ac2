/- The stable sort of a row of parcels. No condition but what each says. -/
import Derived.Test.YtlchakkdgkbabaaWSym3
set_option linter.unusedSimpArgs false
set_option linter.unusedVariables false
set_option maxRecDepth 8000
set_option maxHeartbeats 8000000
namespace Go.Proofs.Ytlchakkdgkbabaa
open Go.Eng Go.RowKit
/-- stretches of k that are sorted, each by itself; the last one may be shorter -/
inductive Bk (k : Nat) : List Pc → Prop
  | last {l : List Pc} : l.length ≤ k → Srt l → Bk k l
  | cons {b l : List Pc} : b.length = k → Srt b → Bk k l → Bk k (b ++ l)
def Fk (k : Nat) (A : List Pc) : Prop := ∀ C, Bk k C → Bk k (A ++ C)
theorem fk_nil (k : Nat) : Fk k [] := fun C h => h
theorem fk_snoc {k : Nat} {A b : List Pc} (h : Fk k A) (hb : b.length = k) (hs : Srt b) : Fk k (A ++ b) := fun C hC => by
  rw [List.append_assoc]
  exact h _ (.cons hb hs hC)
theorem bk_short {k : Nat} {C : List Pc} (h : Bk k C) (hl : C.length ≤ k) : Srt C := by
  cases h with
  | last _ h => exact h
  | cons h1 h2 h3 =>
    rw [List.length_append] at hl
    rename_i b l
    obtain rfl : l = [] := List.eq_nil_of_length_eq_zero (by omega)
    rw [List.append_nil]
    exact h2
theorem bk_one {k : Nat} {C : List Pc} (h : Bk k C) (hl : k < C.length) : ∃ b l, C = b ++ l ∧ b.length = k ∧ Srt b ∧ Bk k l := by
  cases h with
  | last h _ => omega
  | cons h1 h2 h3 => exact ⟨_, _, rfl, h1, h2, h3⟩
theorem bk_two {k : Nat} {C : List Pc} (h : Bk k C) (hk : 1 ≤ k) (hl : 2 * k ≤ C.length) : ∃ b1 b2 l, C = b1 ++ b2 ++ l ∧ b1.length = k ∧ b2.length = k ∧ Srt b1 ∧ Srt b2 ∧ Bk k l := by
  obtain ⟨b, l, rfl, h1, h2, h3⟩ := bk_one h (by omega)
  rw [List.length_append] at hl
  by_cases e : l.length = k
  · exact ⟨b, l, [], (List.append_nil _).symm, h1, e, h2, bk_short h3 (by omega), .last (Nat.zero_le _) List.Pairwise.nil⟩
  · obtain ⟨b2, l2, rfl, g1, g2, g3⟩ := bk_one h3 (by omega)
    exact ⟨b, b2, l2, by simp, h1, g1, h2, g2, g3⟩
theorem stab_mid (A Z B : List Pc) : stab (A ++ stab Z ++ B) = stab (A ++ Z ++ B) := by
  rw [stab_app, stab_app, stab_srt (stab_isSrt Z), stab_app (A ++ Z), stab_app A Z]
theorem stable_m (g : Nat) (hg : CmpF g) (X : List Pc) (n : Nat) (hn : n = X.length) (hl : n ≤ 1000000) :
    GivM Try.prog 20 [.sl 2000000 2 0 n, .d (.c (.int .i64 n)), .d (.fn g [])] [(2000000, .row 2 (X.map pcD))] (.tup []) [(2000000, .row 2 ((stab X).map pcD))] := by
  refine GivM.of mixed c20 (Nat.le_of_ble_eq_true rfl) rfl rfl ?_
  simp -dsimp -implicitDefEqProofs (disch := first | omega | (simp only [List.length_append, List.length_cons, List.length_nil, List.length_take, List.length_drop]; omega)) only [a20, ↓aPre, aPost, oneW, allOne, retV, retVA, simprocAttr]
  refine loop_of (fun s => ∃ (A C L : List Pc) (al : Nat), L = A ++ C ∧ stab (A ++ C) = stab X ∧ Fk 20 A ∧ al = A.length ∧ al + C.length = n ∧ s.tm 6 = .d (.c (.int .i64 20)) ∧ s.tm 7 = .d (.c (.int .i64 al)) ∧ s.tm 8 = .d (.c (.int .i64 (al + 20 : Nat))) ∧ s.tm 0 = .sl 2000000 2 0 n ∧ s.tm 1 = .d (.c (.int .i64 n)) ∧ s.tm 2 = .d (.fn g []) ∧ s.hp 2000000 = some (.row 2 (L.map pcD))) (fun s => n - (avN (s.tm 7)).toNat) ?_ ?_
  · refine ⟨[], X, X, 0, rfl, rfl, fk_nil _, rfl, by omega, ?_⟩
    simp -dsimp -implicitDefEqProofs (disch := first | omega | (simp only [List.length_append, List.length_cons, List.length_nil, List.length_take, List.length_drop]; omega)) only [Int.natCast_zero, ↓aPre, aPost, oneW, allOne, retV, retVA, simprocAttr]
  rintro s ⟨A, C, L, al, hL, hst, hA, hal, hn2, hs⟩
  obtain ⟨a2, ha2⟩ : ∃ a2, a2 = al + 20 := ⟨_, rfl⟩
  rw [← ha2] at hs
  by_cases hlt : a2 ≤ n
  · obtain ⟨c1, c2, rfl, hc1⟩ : ∃ c1 c2, C = c1 ++ c2 ∧ c1.length = 20 := ⟨C.take 20, C.drop 20, (List.take_append_drop _ _).symm, by rw [List.length_take]; omega⟩
    rw [List.length_append] at hn2
    have hin := ins_m g hg A c1 c2 al a2 n hal (by omega) (by omega) hl
    rw [List.append_assoc A c1 c2, ← hL] at hin
    simp -dsimp -implicitDefEqProofs (disch := first | omega | (simp only [List.length_append, List.length_cons, List.length_nil, List.length_take, List.length_drop]; omega)) only [hs, ↓aPre, aPost, oneW, allOne, retV, retVA, simprocAttr]
    refine call_mut hin [] rfl rfl ?_ ?_
    · simp -dsimp -implicitDefEqProofs (disch := first | omega | (simp only [List.length_append, List.length_cons, List.length_nil, List.length_take, List.length_drop]; omega)) only [hs, ↓aPre, aPost, oneW, allOne, retV, retVA, simprocAttr]
    obtain ⟨a3, ha3⟩ : ∃ a3, a3 = a2 + 20 := ⟨_, rfl⟩
    have i1 : (a2 : Int) + 20 = (a3 : Int) := by omega
    simp -dsimp -implicitDefEqProofs (disch := first | omega | (simp only [List.length_append, List.length_cons, List.length_nil, List.length_take, List.length_drop]; omega)) only [hs, i1, ↓aPre, aPost, oneW, allOne, retV, retVA, simprocAttr]
    refine round_of ⟨A ++ stab c1, c2, _, a2, rfl, ?_, fk_snoc hA (by rw [stab_len, hc1]) (stab_isSrt _), by rw [List.length_append, stab_len]; omega, by omega, ?_⟩ ?_
    · rw [stab_mid, List.append_assoc, hst]
    · rw [← ha3]
      simp -dsimp -implicitDefEqProofs (disch := first | omega | (simp only [List.length_append, List.length_cons, List.length_nil, List.length_take, List.length_drop]; omega)) only [hs, ↓aPre, aPost, oneW, allOne, retV, retVA, simprocAttr]
    · simp -dsimp -implicitDefEqProofs (disch := first | omega | (simp only [List.length_append, List.length_cons, List.length_nil, List.length_take, List.length_drop]; omega)) only [hs, ↓aPre, aPost, oneW, allOne, retV, retVA, simprocAttr]
      omega
  · have hin := ins_m g hg A C [] al n n hal (by omega) (by rw [List.length_nil]; omega) hl
    rw [List.append_nil, List.append_nil, ← hL] at hin
    simp -dsimp -implicitDefEqProofs (disch := first | omega | (simp only [List.length_append, List.length_cons, List.length_nil, List.length_take, List.length_drop]; omega)) only [hs, ↓aPre, aPost, oneW, allOne, retV, retVA, simprocAttr]
    refine call_mut hin [] rfl rfl ?_ ?_
    · simp -dsimp -implicitDefEqProofs (disch := first | omega | (simp only [List.length_append, List.length_cons, List.length_nil, List.length_take, List.length_drop]; omega)) only [hs, ↓aPre, aPost, oneW, allOne, retV, retVA, simprocAttr]
    simp -dsimp -implicitDefEqProofs (disch := first | omega | (simp only [List.length_append, List.length_cons, List.length_nil, List.length_take, List.length_drop]; omega)) only [hs, ↓aPre, aPost, oneW, allOne, retV, retVA, simprocAttr]
    refine loop_of (fun s => ∃ (k : Nat) (L : List Pc), 1 ≤ k ∧ k ≤ 2 * n + 20 ∧ Bk k L ∧ L.length = n ∧ stab L = stab X ∧ s.tm 6 = .d (.c (.int .i64 k)) ∧ s.tm 0 = .sl 2000000 2 0 n ∧ s.tm 1 = .d (.c (.int .i64 n)) ∧ s.tm 2 = .d (.fn g []) ∧ s.hp 2000000 = some (.row 2 (L.map pcD))) (fun s => n - (avN (s.tm 6)).toNat) ?_ ?_
    · refine ⟨20, A ++ stab C, by omega, by omega, hA _ (.last (by rw [stab_len]; omega) (stab_isSrt _)), by rw [List.length_append, stab_len]; omega, ?_, ?_⟩
      · have := stab_mid A C []
        rw [List.append_nil, List.append_nil] at this
        rw [this, hst]
      · simp -dsimp -implicitDefEqProofs (disch := first | omega | (simp only [List.length_append, List.length_cons, List.length_nil, List.length_take, List.length_drop]; omega)) only [hs, ↓aPre, aPost, oneW, allOne, retV, retVA, simprocAttr]
    clear hst hA hal hn2 hlt ha2 hin hL hs
    rintro s ⟨k, L, hk, hk2, hB, hLn, hst, hs⟩
    by_cases hlt : k < n
    · have hs0 := hs
      simp -dsimp -implicitDefEqProofs (disch := first | omega | (simp only [List.length_append, List.length_cons, List.length_nil, List.length_take, List.length_drop]; omega)) only [hs, ↓aPre, aPost, oneW, allOne, retV, retVA, simprocAttr]
      refine loop_of (fun s => ∃ (A C L : List Pc) (al : Nat), L = A ++ C ∧ stab (A ++ C) = stab X ∧ Fk (2 * k) A ∧ Bk k C ∧ al = A.length ∧ al + C.length = n ∧ s.tm 6 = .d (.c (.int .i64 k)) ∧ s.tm 7 = .d (.c (.int .i64 al)) ∧ s.tm 8 = .d (.c (.int .i64 (al + 2 * k : Nat))) ∧ s.tm 0 = .sl 2000000 2 0 n ∧ s.tm 1 = .d (.c (.int .i64 n)) ∧ s.tm 2 = .d (.fn g []) ∧ s.hp 2000000 = some (.row 2 (L.map pcD))) (fun s => n - (avN (s.tm 7)).toNat) ?_ ?_
      · refine ⟨[], L, L, 0, rfl, hst, fk_nil _, hB, rfl, by omega, ?_⟩
        have j1 : (2 : Int) * (k : Int) = ((0 + 2 * k : Nat) : Int) := by omega
        simp -dsimp -implicitDefEqProofs (disch := first | omega | (simp only [List.length_append, List.length_cons, List.length_nil, List.length_take, List.length_drop]; omega)) only [hs, j1, Int.natCast_zero, ↓aPre, aPost, oneW, allOne, retV, retVA, simprocAttr]
      clear hs hst hB hLn
      rintro s ⟨A, C, L, al, hL, hst, hA, hB, hal, hn2, hs⟩
      obtain ⟨a2, ha2⟩ : ∃ a2, a2 = al + 2 * k := ⟨_, rfl⟩
      rw [← ha2] at hs
      obtain ⟨am, ham⟩ : ∃ am, am = al + k := ⟨_, rfl⟩
      have i1 : (al : Int) + (k : Int) = (am : Int) := by omega
      by_cases hlt2 : a2 ≤ n
      · obtain ⟨b1, b2, C', rfl, g1, g2, g3, g4, g5⟩ := bk_two hB hk (by omega)
        simp only [List.length_append] at hn2
        have hsy := sym_m g hg (2 * k) A b1 b2 C' al am a2 n (by omega) g3 g4 (by omega) (by omega) hal (by omega) (by omega) (by omega) hl
        rw [show A ++ b1 ++ b2 ++ C' = L by rw [hL]; simp] at hsy
        simp -dsimp -implicitDefEqProofs (disch := first | omega | (simp only [List.length_append, List.length_cons, List.length_nil, List.length_take, List.length_drop]; omega)) only [hs, i1, ↓aPre, aPost, oneW, allOne, retV, retVA, simprocAttr]
        refine call_mut hsy [] rfl rfl ?_ ?_
        · simp -dsimp -implicitDefEqProofs (disch := first | omega | (simp only [List.length_append, List.length_cons, List.length_nil, List.length_take, List.length_drop]; omega)) only [hs, ↓aPre, aPost, oneW, allOne, retV, retVA, simprocAttr]
        have i2 : (2 : Int) * (k : Int) = ((2 * k : Nat) : Int) := by omega
        have i3 : (a2 : Int) + ((2 * k : Nat) : Int) = ((a2 + 2 * k : Nat) : Int) := by omega
        obtain ⟨k2, hk2'⟩ : ∃ k2, k2 = 2 * k := ⟨_, rfl⟩
        rw [← hk2'] at i2 i3
        obtain ⟨a3, ha3⟩ : ∃ a3, a3 = a2 + k2 := ⟨_, rfl⟩
        rw [← ha3] at i3
        simp -dsimp -implicitDefEqProofs (disch := first | omega | (simp only [List.length_append, List.length_cons, List.length_nil, List.length_take, List.length_drop]; omega)) only [hs, i2, i3, ↓aPre, aPost, oneW, allOne, retV, retVA, simprocAttr]
        refine round_of ⟨A ++ mrg b1 b2, C', _, a2, rfl, ?_, fk_snoc hA (by rw [mrg_len]; omega) (mrg_srt g3 g4), g5, by rw [List.length_append, mrg_len]; omega, by omega, ?_⟩ ?_
        · rw [← stab_two g3 g4, stab_mid, ← hst]
          simp
        · rw [← hk2', ← ha3]
          simp -dsimp -implicitDefEqProofs (disch := first | omega | (simp only [List.length_append, List.length_cons, List.length_nil, List.length_take, List.length_drop]; omega)) only [hs, ↓aPre, aPost, oneW, allOne, retV, retVA, simprocAttr]
        · simp -dsimp -implicitDefEqProofs (disch := first | omega | (simp only [List.length_append, List.length_cons, List.length_nil, List.length_take, List.length_drop]; omega)) only [hs, ↓aPre, aPost, oneW, allOne, retV, retVA, simprocAttr]
          omega
      · have i4 : (k : Int) * 2 = ((2 * k : Nat) : Int) := by omega
        obtain ⟨k2, hk2'⟩ : ∃ k2, k2 = 2 * k := ⟨_, rfl⟩
        rw [← hk2'] at i4
        by_cases hlt3 : am < n
        · obtain ⟨b1, b2, rfl, g1, g2, g3⟩ := bk_one hB (by omega)
          simp only [List.length_append] at hn2
          have g4 := bk_short g3 (by omega)
          have hsy := sym_m g hg (2 * k) A b1 b2 [] al am n n (by omega) g2 g4 (by omega) (by omega) hal (by omega) (by omega) (by rw [List.length_nil]; omega) hl
          rw [show A ++ b1 ++ b2 ++ [] = L by rw [hL]; simp, List.append_nil] at hsy
          simp -dsimp -implicitDefEqProofs (disch := first | omega | (simp only [List.length_append, List.length_cons, List.length_nil, List.length_take, List.length_drop]; omega)) only [hs, i1, hlt3, ↓aPre, aPost, oneW, allOne, retV, retVA, simprocAttr]
          refine call_mut hsy [] rfl rfl ?_ ?_
          · simp -dsimp -implicitDefEqProofs (disch := first | omega | (simp only [List.length_append, List.length_cons, List.length_nil, List.length_take, List.length_drop]; omega)) only [hs, ↓aPre, aPost, oneW, allOne, retV, retVA, simprocAttr]
          simp -dsimp -implicitDefEqProofs (disch := first | omega | (simp only [List.length_append, List.length_cons, List.length_nil, List.length_take, List.length_drop]; omega)) only [hs, i4, ↓aPre, aPost, oneW, allOne, retV, retVA, simprocAttr]
          refine round_of ⟨k2, A ++ mrg b1 b2, by omega, by omega, hk2' ▸ hA _ (.last (by rw [mrg_len]; omega) (mrg_srt g2 g4)), by rw [List.length_append, mrg_len]; omega, ?_, ?_⟩ ?_
          · have := stab_mid A (b1 ++ b2) []
            rw [List.append_nil, List.append_nil] at this
            rw [← stab_two g2 g4, this, hst]
          · simp -dsimp -implicitDefEqProofs (disch := first | omega | (simp only [List.length_append, List.length_cons, List.length_nil, List.length_take, List.length_drop]; omega)) only [hs, ↓aPre, aPost, oneW, allOne, retV, retVA, simprocAttr]
          · simp -dsimp -implicitDefEqProofs (disch := first | omega | (simp only [List.length_append, List.length_cons, List.length_nil, List.length_take, List.length_drop]; omega)) only [hs, hs0, ↓aPre, aPost, oneW, allOne, retV, retVA, simprocAttr]
            omega
        · have g4 := bk_short hB (by omega)
          simp -dsimp -implicitDefEqProofs (disch := first | omega | (simp only [List.length_append, List.length_cons, List.length_nil, List.length_take, List.length_drop]; omega)) only [hs, i1, i4, ↓aPre, aPost, oneW, allOne, retV, retVA, simprocAttr]
          refine round_of ⟨k2, L, by omega, by omega, ?_, by rw [hL, List.length_append]; omega, by rw [hL, hst], ?_⟩ ?_
          · rw [hL, hk2']
            exact hA _ (.last (by omega) g4)
          · simp -dsimp -implicitDefEqProofs (disch := first | omega | (simp only [List.length_append, List.length_cons, List.length_nil, List.length_take, List.length_drop]; omega)) only [hs, ↓aPre, aPost, oneW, allOne, retV, retVA, simprocAttr]
          · simp -dsimp -implicitDefEqProofs (disch := first | omega | (simp only [List.length_append, List.length_cons, List.length_nil, List.length_take, List.length_drop]; omega)) only [hs, hs0, ↓aPre, aPost, oneW, allOne, retV, retVA, simprocAttr]
            omega
    · have e : stab L = L := stab_srt (bk_short hB (by omega))
      rw [← hst, e]
      simp -dsimp -implicitDefEqProofs (disch := first | omega | (simp only [List.length_append, List.length_cons, List.length_nil, List.length_take, List.length_drop]; omega)) only [hs, ↓aPre, aPost, oneW, allOne, retV, retVA, simprocAttr]
      refine end_of rfl ?_
      simp -dsimp -implicitDefEqProofs (disch := first | omega | (simp only [List.length_append, List.length_cons, List.length_nil, List.length_take, List.length_drop]; omega)) only [hs, ↓aPre, aPost, oneW, allOne, retV, retVA, simprocAttr]
theorem sort_m (g : Nat) (hg : CmpF g) (X : List Pc) (n : Nat) (hn : n = X.length) (hl : n ≤ 1000000) :
    GivM Try.prog 14 [.sl 2000000 2 0 n, .d (.fn g [])] [(2000000, .row 2 (X.map pcD))] (.tup []) [(2000000, .row 2 ((stab X).map pcD))] := by
  refine GivM.of mixed c14 (Nat.le_of_ble_eq_true rfl) rfl rfl ?_
  simp -dsimp -implicitDefEqProofs (disch := first | omega | (simp only [List.length_append, List.length_cons, List.length_nil, List.length_take, List.length_drop]; omega)) only [a14, ↓aPre, aPost, oneW, allOne, retV, retVA, simprocAttr]
  refine call_mut (stable_m g hg X n hn hl) [] rfl rfl ?_ ?_
  · simp -dsimp -implicitDefEqProofs (disch := first | omega | (simp only [List.length_append, List.length_cons, List.length_nil, List.length_take, List.length_drop]; omega)) only [↓aPre, aPost, oneW, allOne, retV, retVA, simprocAttr]
  simp -dsimp -implicitDefEqProofs (disch := first | omega | (simp only [List.length_append, List.length_cons, List.length_nil, List.length_take, List.length_drop]; omega)) only [↓aPre, aPost, oneW, allOne, retV, retVA, simprocAttr]
  refine end_of rfl ?_
  simp -dsimp -implicitDefEqProofs (disch := first | omega | (simp only [List.length_append, List.length_cons, List.length_nil, List.length_take, List.length_drop]; omega)) only [↓aPre, aPost, oneW, allOne, retV, retVA, simprocAttr]
end Go.Proofs.Ytlchakkdgkbabaa

/- From which directories on one hangs below others. No condition but what each says. -/
import Derived.Test.YtpjnpmdmcllilaaWRTree
set_option linter.unusedSimpArgs false
set_option linter.unusedVariables false
set_option maxRecDepth 8000
set_option maxHeartbeats 8000000
namespace Go.Proofs.Ytpjnpmdmcllilaa
open Go.Eng Go.RowKit
def Hgs (l : List It) : Prop := ∀ k, k < l.length → Hng (l.take k) (itx l k).1 (itx l k).2.1
theorem Hgs.cases {l : List It} (h : Hgs l) {k : Nat} (hk : k < l.length) : ((itx l k).1 = 0 ∧ (itx l k).2.1 = -1) ∨ ∃ v : Nat, (itx l k).2.1 = v ∧ v < k ∧ (itx l k).1 = (itx l v).1 + 1 := by
  rcases h k hk with h | ⟨v, h1, h2, h3⟩
  · exact .inl h
  · rw [List.length_take] at h2
    have : itx (l.take k) v = itx l v := by
      simp only [itx, List.getD, List.getElem?_take_of_lt (show v < k by omega)]
    rw [this] at h3
    exact .inr ⟨v, h1, by omega, h3⟩
theorem Hgs.dep {l : List It} (h : Hgs l) : ∀ k, k < l.length → 0 ≤ (itx l k).1 ∧ (itx l k).1 ≤ k := by
  intro k
  induction k using Nat.strongRecOn with
  | ind k ih =>
    intro hk
    rcases h.cases hk with ⟨h1, _⟩ | ⟨v, h1, h2, h3⟩
    · omega
    · have h4 := ih v h2 (by omega)
      omega
def pth (l : List It) : Nat → Nat → List Int
  | 0, _ => []
  | f + 1, i => (if (itx l i).2.1 < 0 then [] else pth l f (itx l i).2.1.toNat) ++ [(i : Int)]
theorem pth_fuel {l : List It} (h : Hgs l) : ∀ (f g i : Nat), i < l.length → i < f → i < g → pth l f i = pth l g i
  | 0, g, i, _, h1, _ => absurd h1 (Nat.not_lt_zero _)
  | f + 1, 0, i, _, _, h2 => absurd h2 (Nat.not_lt_zero _)
  | f + 1, g + 1, i, hi, h1, h2 => by
    rw [pth, pth]
    rcases h.cases hi with ⟨_, h3⟩ | ⟨v, h3, h4, _⟩
    · rw [if_pos (by omega), if_pos (by omega)]
    · rw [if_neg (by omega), if_neg (by omega), h3, Int.toNat_natCast, pth_fuel h f g v (by omega) (by omega) (by omega)]
structure PathOk (l : List It) (i : Nat) (p : List Int) : Prop where
  len : (p.length : Int) = (itx l i).1 + 1
  last : p.getD (p.length - 1) 0 = (i : Int)
  el : ∀ k, k < p.length → ∃ n : Nat, p.getD k 0 = (n : Int) ∧ n < l.length ∧ (itx l n).1 = (k : Int) ∧ (0 < k → (itx l n).2.1 = p.getD (k - 1) 0)
theorem getD_left {a c : List Int} {k : Nat} (h : k < a.length) : (a ++ c).getD k 0 = a.getD k 0 := by rw [getD_append, if_pos h]
theorem pth_ok {l : List It} (h : Hgs l) : ∀ (f i : Nat), i < l.length → i < f → PathOk l i (pth l f i)
  | 0, i, _, h1 => absurd h1 (Nat.not_lt_zero _)
  | f + 1, i, hi, h1 => by
    rw [pth]
    rcases h.cases hi with ⟨h2, h3⟩ | ⟨v, h3, h4, h5⟩
    · rw [if_pos (by omega), List.nil_append]
      refine ⟨by rw [h2]; rfl, rfl, fun k hk => ?_⟩
      obtain rfl : k = 0 := by simpa using hk
      exact ⟨i, rfl, hi, h2, fun c => absurd c (by decide)⟩
    · have ih := pth_ok h f v (by omega) (by omega)
      rw [if_neg (by omega), h3, Int.toNat_natCast]
      obtain ⟨q, hq⟩ : ∃ q, q = pth l f v := ⟨_, rfl⟩
      rw [← hq] at ih ⊢
      have hl : (q ++ [(i : Int)]).length = q.length + 1 := by simp
      have h6 := ih.len
      refine ⟨by rw [hl]; omega, by rw [hl, getD_append, if_neg (by omega)]; simp, fun k hk => ?_⟩
      by_cases c : k < q.length
      · obtain ⟨n, n1, n2, n3, n4⟩ := ih.el k c
        refine ⟨n, by rw [getD_left c]; exact n1, n2, n3, fun hk0 => by rw [getD_left (by omega)]; exact n4 hk0⟩
      · obtain rfl : k = q.length := by omega
        refine ⟨i, by rw [getD_append, if_neg (by omega)]; simp, hi, by omega, fun hk0 => ?_⟩
        rw [getD_left (by omega), ih.last, h3]
theorem path_giv (l : List It) (hl : l.length ≤ 100000) (h : Hgs l) (i : Nat) (hi : i < l.length) : Giv Try.prog 9 [.lst 5 (l.map itD), .c (.int .i64 i)] (retV [.lst 1 (li .i64 (pth l (i + 1) i)), .c (.int .i64 0)]) := by
  have hlen := its_len l
  obtain ⟨P, hP⟩ : ∃ P, P = pth l (i + 1) i := ⟨_, rfl⟩
  have hok := pth_ok h (i + 1) i hi (Nat.lt_succ_self _)
  rw [← hP] at hok ⊢
  have hPl := hok.len
  have hdi := h.dep i hi
  refine Giv.of mixed c9 (Nat.le_of_ble_eq_true rfl) ?_
  simp -dsimp -implicitDefEqProofs (disch := first | omega | (simp only [List.length_append, List.length_cons, List.length_nil, List.length_take, List.length_drop]; omega)) only [a9, ↓aPre, aPost, oneW, allOne, retV, retVA, simprocAttr]
  refine loop_of (fun st => ∃ S : List Int, ((∃ cur : Nat, st.tm 1 = .d (.c (.int .i64 cur)) ∧ cur < l.length ∧ P = pth l (cur + 1) cur ++ S ∧ (S.length : Int) + (itx l cur).1 + 1 = P.length) ∨ (st.tm 1 = .d (.c (.int .i64 (-1))) ∧ P = S)) ∧ st.tm 7 = .d (.c (.int .i64 S.length)) ∧ ((S = [] ∧ st.tm 6 = .d (.c (.slice none 0 0))) ∨ st.tm 6 = .d (.lst 1 (li .i64 S))) ∧ st.tm 0 = .d (.lst 5 (l.map itD))) (fun st => (avN (st.tm 1) + 1).toNat) ?_ ?_
  · refine ⟨[], .inl ⟨i, ?_, hi, by rw [hP, List.append_nil], by rw [hPl]; simp⟩, ?_, .inl ⟨rfl, ?_⟩, ?_⟩
    · simp -dsimp -implicitDefEqProofs (disch := first | omega | (simp only [List.length_append, List.length_cons, List.length_nil, List.length_take, List.length_drop]; omega)) only [↓aPre, aPost, oneW, allOne, retV, retVA, simprocAttr]
    · simp -dsimp -implicitDefEqProofs (disch := first | omega | (simp only [List.length_append, List.length_cons, List.length_nil, List.length_take, List.length_drop]; omega)) only [List.length_nil, Int.natCast_zero, ↓aPre, aPost, oneW, allOne, retV, retVA, simprocAttr]
    · simp -dsimp -implicitDefEqProofs (disch := first | omega | (simp only [List.length_append, List.length_cons, List.length_nil, List.length_take, List.length_drop]; omega)) only [↓aPre, aPost, oneW, allOne, retV, retVA, simprocAttr]
    · simp -dsimp -implicitDefEqProofs (disch := first | omega | (simp only [List.length_append, List.length_cons, List.length_nil, List.length_take, List.length_drop]; omega)) only [↓aPre, aPost, oneW, allOne, retV, retVA, simprocAttr]
  rintro st ⟨S, h1, h7, h6, h0⟩
  have hSl := li_length (k := .i64) (l := S)
  rcases h1 with ⟨cur, h1, hc, hPc, hPl2⟩ | ⟨h1, hPc⟩
  · have hg := it_get hc
    rw [itD] at hg
    have hdc := h.dep cur hc
    obtain ⟨x, hx⟩ : ∃ x, x = itx l cur := ⟨_, rfl⟩
    have hcs := h.cases hc
    rw [← hx] at hg hPl2 hdc hcs
    have hPc2 : P = (if x.2.1 < 0 then [] else pth l cur x.2.1.toNat) ++ ((cur : Int) :: S) := by
      rw [hPc, pth, ← hx, List.append_assoc]
      rfl
    have hSb : S.length ≤ l.length := by omega
    have hli : [D.c (.int .i64 (cur : Int))] ++ li .i64 S = li .i64 ((cur : Int) :: S) := rfl
    have hl2 : (li .i64 ((cur : Int) :: S)).length = S.length + 1 := by rw [li_length, List.length_cons]
    obtain ⟨S2, hS2⟩ : ∃ S2, S2 = (cur : Int) :: S := ⟨_, rfl⟩
    have hS2l : S2.length = S.length + 1 := by rw [hS2, List.length_cons]
    rw [← hS2] at hli hl2 hPc2
    have htk : ((li .i64 S2).drop 0).take (S.length + 1) = li .i64 S2 := by rw [List.drop_zero, List.take_of_length_le (by rw [hl2]; exact Nat.le_refl _)]
    have fin : ((∃ c : Nat, x.2.1 = (c : Int) ∧ c < cur ∧ c < l.length ∧ P = pth l (c + 1) c ++ S2 ∧ (S2.length : Int) + (itx l c).1 + 1 = P.length) ∨ (x.2.1 = -1 ∧ P = S2)) := by
      rcases hcs with ⟨g1, g2⟩ | ⟨v, g1, g2, g3⟩
      · rw [if_pos (by omega)] at hPc2
        exact .inr ⟨g2, hPc2⟩
      · rw [if_neg (by omega), g1, Int.toNat_natCast, pth_fuel h cur (v + 1) v (by omega) g2 (Nat.lt_succ_self _)] at hPc2
        exact .inl ⟨v, g1, g2, by omega, hPc2, by omega⟩
    have hvb : -1 ≤ x.2.1 ∧ x.2.1 ≤ 100000 := by
      rcases hcs with ⟨g1, g2⟩ | ⟨v, g1, g2, g3⟩ <;> omega
    rcases h6 with ⟨hSn, h6⟩ | h6
    · have hli1 : [D.c (.int .i64 (cur : Int))] = li .i64 S2 := by rw [hS2, hSn]; rfl
      have hS0 : S.length = 0 := by rw [hSn]; rfl
      have j7 : S2.length = 1 := by omega
      rw [hS0] at h7 hl2
      rw [Int.natCast_zero] at h7
      rw [Nat.zero_add] at hl2
      have htk : [(cur : Int)] = S2 := by rw [hS2, hSn]
      simp -dsimp -implicitDefEqProofs (disch := first | omega | (simp only [List.length_append, List.length_cons, List.length_nil, List.length_take, List.length_drop]; omega)) only [h0, h1, h6, h7, hlen, hg, ↓aPre, aPost, oneW, allOne, retV, retVA, simprocAttr]
      rcases fin with ⟨c, e1, e2, e3, e4, e5⟩ | ⟨e1, e2⟩
      · refine round_gh (Gh.ice (t := 6) (n := 23) (es := 1) (off := 0) (len := 1) (L := [.c (.int .i64 (cur : Int))]) (by simp -dsimp -implicitDefEqProofs (disch := first | omega | (simp only [List.length_append, List.length_cons, List.length_nil, List.length_take, List.length_drop]; omega)) only [↓aPre, aPost, oneW, allOne, retV, retVA, simprocAttr]) (by simp -dsimp -implicitDefEqProofs (disch := first | omega | (simp only [List.length_append, List.length_cons, List.length_nil, List.length_take, List.length_drop]; omega)) only [↓aPre, aPost, oneW, allOne, retV, retVA, simprocAttr]) (by decide) (by simp)) ⟨S2, .inl ⟨c, ?_, e3, e4, e5⟩, ?_, .inr ?_, ?_⟩ ?_
        · simp -dsimp -implicitDefEqProofs (disch := first | omega | (simp only [List.length_append, List.length_cons, List.length_nil, List.length_take, List.length_drop]; omega)) only [e1, ↓aPre, aPost, oneW, allOne, retV, retVA, simprocAttr]
        · simp -dsimp -implicitDefEqProofs (disch := first | omega | (simp only [List.length_append, List.length_cons, List.length_nil, List.length_take, List.length_drop]; omega)) only [j7, Int.natCast_one, ↓aPre, aPost, oneW, allOne, retV, retVA, simprocAttr]
        · simp -dsimp -implicitDefEqProofs (disch := first | omega | (simp only [List.length_append, List.length_cons, List.length_nil, List.length_take, List.length_drop]; omega)) only [htk, ↓aPre, aPost, oneW, allOne, retV, retVA, simprocAttr]
        · simp -dsimp -implicitDefEqProofs (disch := first | omega | (simp only [List.length_append, List.length_cons, List.length_nil, List.length_take, List.length_drop]; omega)) only [h0, ↓aPre, aPost, oneW, allOne, retV, retVA, simprocAttr]
        · simp -dsimp -implicitDefEqProofs (disch := first | omega | (simp only [List.length_append, List.length_cons, List.length_nil, List.length_take, List.length_drop]; omega)) only [h1, e1, ↓aPre, aPost, oneW, allOne, retV, retVA, simprocAttr]
          omega
      · refine round_gh (Gh.ice (t := 6) (n := 23) (es := 1) (off := 0) (len := 1) (L := [.c (.int .i64 (cur : Int))]) (by simp -dsimp -implicitDefEqProofs (disch := first | omega | (simp only [List.length_append, List.length_cons, List.length_nil, List.length_take, List.length_drop]; omega)) only [↓aPre, aPost, oneW, allOne, retV, retVA, simprocAttr]) (by simp -dsimp -implicitDefEqProofs (disch := first | omega | (simp only [List.length_append, List.length_cons, List.length_nil, List.length_take, List.length_drop]; omega)) only [↓aPre, aPost, oneW, allOne, retV, retVA, simprocAttr]) (by decide) (by simp)) ⟨S2, .inr ⟨?_, e2⟩, ?_, .inr ?_, ?_⟩ ?_
        · simp -dsimp -implicitDefEqProofs (disch := first | omega | (simp only [List.length_append, List.length_cons, List.length_nil, List.length_take, List.length_drop]; omega)) only [e1, ↓aPre, aPost, oneW, allOne, retV, retVA, simprocAttr]
        · simp -dsimp -implicitDefEqProofs (disch := first | omega | (simp only [List.length_append, List.length_cons, List.length_nil, List.length_take, List.length_drop]; omega)) only [j7, Int.natCast_one, ↓aPre, aPost, oneW, allOne, retV, retVA, simprocAttr]
        · simp -dsimp -implicitDefEqProofs (disch := first | omega | (simp only [List.length_append, List.length_cons, List.length_nil, List.length_take, List.length_drop]; omega)) only [htk, ↓aPre, aPost, oneW, allOne, retV, retVA, simprocAttr]
        · simp -dsimp -implicitDefEqProofs (disch := first | omega | (simp only [List.length_append, List.length_cons, List.length_nil, List.length_take, List.length_drop]; omega)) only [h0, ↓aPre, aPost, oneW, allOne, retV, retVA, simprocAttr]
        · simp -dsimp -implicitDefEqProofs (disch := first | omega | (simp only [List.length_append, List.length_cons, List.length_nil, List.length_take, List.length_drop]; omega)) only [h1, e1, ↓aPre, aPost, oneW, allOne, retV, retVA, simprocAttr]
          omega
    · have j7 : (S.length : Int) + 1 = (S2.length : Int) := by omega
      have htk : ((li .i64 S2).drop 0).take (1 + S.length) = li .i64 S2 := by rw [Nat.add_comm]; exact htk
      simp -dsimp -implicitDefEqProofs (disch := first | omega | (simp only [List.length_append, List.length_cons, List.length_nil, List.length_take, List.length_drop]; omega)) only [h0, h1, h6, h7, hlen, hg, hSl, hli, ↓aPre, aPost, oneW, allOne, retV, retVA, simprocAttr]
      rcases fin with ⟨c, e1, e2, e3, e4, e5⟩ | ⟨e1, e2⟩
      · refine round_gh (Gh.ice (t := 6) (n := 23) (es := 1) (off := 0) (len := 1 + S.length) (L := li .i64 S2) (by simp -dsimp -implicitDefEqProofs (disch := first | omega | (simp only [List.length_append, List.length_cons, List.length_nil, List.length_take, List.length_drop]; omega)) only [hli, ↓aPre, aPost, oneW, allOne, retV, retVA, simprocAttr]) (by simp -dsimp -implicitDefEqProofs (disch := first | omega | (simp only [List.length_append, List.length_cons, List.length_nil, List.length_take, List.length_drop]; omega)) only [hli, ↓aPre, aPost, oneW, allOne, retV, retVA, simprocAttr]) (by decide) (by rw [hl2]; omega)) ⟨S2, .inl ⟨c, ?_, e3, e4, e5⟩, ?_, .inr ?_, ?_⟩ ?_
        · simp -dsimp -implicitDefEqProofs (disch := first | omega | (simp only [List.length_append, List.length_cons, List.length_nil, List.length_take, List.length_drop]; omega)) only [hli, e1, ↓aPre, aPost, oneW, allOne, retV, retVA, simprocAttr]
        · simp -dsimp -implicitDefEqProofs (disch := first | omega | (simp only [List.length_append, List.length_cons, List.length_nil, List.length_take, List.length_drop]; omega)) only [hli, j7, ↓aPre, aPost, oneW, allOne, retV, retVA, simprocAttr]
        · simp -dsimp -implicitDefEqProofs (disch := first | omega | (simp only [List.length_append, List.length_cons, List.length_nil, List.length_take, List.length_drop]; omega)) only [hli, htk, ↓aPre, aPost, oneW, allOne, retV, retVA, simprocAttr]
        · simp -dsimp -implicitDefEqProofs (disch := first | omega | (simp only [List.length_append, List.length_cons, List.length_nil, List.length_take, List.length_drop]; omega)) only [hli, h0, ↓aPre, aPost, oneW, allOne, retV, retVA, simprocAttr]
        · simp -dsimp -implicitDefEqProofs (disch := first | omega | (simp only [List.length_append, List.length_cons, List.length_nil, List.length_take, List.length_drop]; omega)) only [hli, h1, e1, ↓aPre, aPost, oneW, allOne, retV, retVA, simprocAttr]
          omega
      · refine round_gh (Gh.ice (t := 6) (n := 23) (es := 1) (off := 0) (len := 1 + S.length) (L := li .i64 S2) (by simp -dsimp -implicitDefEqProofs (disch := first | omega | (simp only [List.length_append, List.length_cons, List.length_nil, List.length_take, List.length_drop]; omega)) only [hli, ↓aPre, aPost, oneW, allOne, retV, retVA, simprocAttr]) (by simp -dsimp -implicitDefEqProofs (disch := first | omega | (simp only [List.length_append, List.length_cons, List.length_nil, List.length_take, List.length_drop]; omega)) only [hli, ↓aPre, aPost, oneW, allOne, retV, retVA, simprocAttr]) (by decide) (by rw [hl2]; omega)) ⟨S2, .inr ⟨?_, e2⟩, ?_, .inr ?_, ?_⟩ ?_
        · simp -dsimp -implicitDefEqProofs (disch := first | omega | (simp only [List.length_append, List.length_cons, List.length_nil, List.length_take, List.length_drop]; omega)) only [hli, e1, ↓aPre, aPost, oneW, allOne, retV, retVA, simprocAttr]
        · simp -dsimp -implicitDefEqProofs (disch := first | omega | (simp only [List.length_append, List.length_cons, List.length_nil, List.length_take, List.length_drop]; omega)) only [hli, j7, ↓aPre, aPost, oneW, allOne, retV, retVA, simprocAttr]
        · simp -dsimp -implicitDefEqProofs (disch := first | omega | (simp only [List.length_append, List.length_cons, List.length_nil, List.length_take, List.length_drop]; omega)) only [hli, htk, ↓aPre, aPost, oneW, allOne, retV, retVA, simprocAttr]
        · simp -dsimp -implicitDefEqProofs (disch := first | omega | (simp only [List.length_append, List.length_cons, List.length_nil, List.length_take, List.length_drop]; omega)) only [hli, h0, ↓aPre, aPost, oneW, allOne, retV, retVA, simprocAttr]
        · simp -dsimp -implicitDefEqProofs (disch := first | omega | (simp only [List.length_append, List.length_cons, List.length_nil, List.length_take, List.length_drop]; omega)) only [hli, h1, e1, ↓aPre, aPost, oneW, allOne, retV, retVA, simprocAttr]
          omega
  · subst hPc
    have hne : ¬ (P.length : Int) = 0 := by omega
    rcases h6 with ⟨rfl, h6⟩ | h6
    · exact absurd rfl hne
    · simp -dsimp -implicitDefEqProofs (disch := first | omega | (simp only [List.length_append, List.length_cons, List.length_nil, List.length_take, List.length_drop]; omega)) only [h0, h1, h6, h7, hSl, hne, ↓aPre, aPost, oneW, allOne, retV, retVA, simprocAttr]
      exact post_eq rfl
theorem path_e (l : List It) (hl : l.length ≤ 100000) (i : Int) (hi : i < 0 ∨ (l.length : Int) ≤ i) : Giv Try.prog 9 [.lst 5 (l.map itD), .c (.int .i64 i)] (retV [.c (.slice none 0 0), .c (.int .i64 1)]) := by
  have hlen := its_len l
  refine Giv.of mixed c9 (Nat.le_of_ble_eq_true rfl) ?_
  simp -dsimp -implicitDefEqProofs (disch := first | omega | (simp only [List.length_append, List.length_cons, List.length_nil, List.length_take, List.length_drop]; omega)) only [a9, ↓aPre, aPost, oneW, allOne, retV, retVA, simprocAttr]
  refine loop_of (fun st => st.tm 1 = .d (.c (.int .i64 i)) ∧ st.tm 6 = .d (.c (.slice none 0 0)) ∧ st.tm 7 = .d (.c (.int .i64 0)) ∧ st.tm 0 = .d (.lst 5 (l.map itD))) (fun st => 0) ?_ ?_
  · simp -dsimp -implicitDefEqProofs (disch := first | omega | (simp only [List.length_append, List.length_cons, List.length_nil, List.length_take, List.length_drop]; omega)) only [↓aPre, aPost, oneW, allOne, retV, retVA, simprocAttr]
  rintro st hs
  by_cases h : i < 0
  · simp -dsimp -implicitDefEqProofs (disch := first | omega | (simp only [List.length_append, List.length_cons, List.length_nil, List.length_take, List.length_drop]; omega)) only [hs, h, ↓aPre, aPost, oneW, allOne, retV, retVA, simprocAttr]
    exact post_eq rfl
  · have h2 : (l.length : Int) ≤ i := by omega
    simp -dsimp -implicitDefEqProofs (disch := first | omega | (simp only [List.length_append, List.length_cons, List.length_nil, List.length_take, List.length_drop]; omega)) only [hs, hlen, h, h2, ↓aPre, aPost, oneW, allOne, retV, retVA, simprocAttr]
    exact post_eq rfl
end Go.Proofs.Ytpjnpmdmcllilaa

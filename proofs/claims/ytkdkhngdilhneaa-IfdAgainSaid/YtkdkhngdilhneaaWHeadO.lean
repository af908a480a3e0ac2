/- A head, written into a row of its own. No condition but what each says. -/
import Derived.Test.YtkdkhngdilhneaaWHead
set_option linter.unusedSimpArgs false
set_option linter.unusedVariables false
set_option maxRecDepth 8000
set_option maxHeartbeats 4000000
namespace Go.Proofs.Ytkdkhngdilhneaa
open Go.Eng Go.RowKit
theorem whead_o (big wide : Bool) (at_ : Nat) (hat : at_ < 18446744073709551616) (ok : wide = true ∨ at_ < 4294967296) : GivO Try.prog 10 [.agg [.c (.bool big), .c (.bool wide), .c (.int .u64 at_)]] (.tup [.sl 0 1 0 (headL big wide at_).length, .d (.c (.int .i64 0))]) (.row 1 (li .u8 (headL big wide at_))) := by
  refine GivO.of mixed c10 (Nat.le_of_ble_eq_true rfl) ?_
  cases big <;> cases wide
  · have hvl : (hvs false at_).length = 2 := rfl
    have hok : ∀ k, k < 2 → sizedP (((hvs false at_).getD k (0, 0)).2 : Int) ∧ ((hvs false at_).getD k (0, 0)).1 < 256 ^ ((hvs false at_).getD k (0, 0)).2 ∧ ((hvs false at_).getD k (0, 0)).1 < 18446744073709551616 := fun k hk => by
      obtain rfl | rfl : k = 0 ∨ k = 1 := by omega
      · exact ⟨.inr (.inl rfl), (show (42 : Nat) < 256 ^ 2 by decide), (show (42 : Nat) < 18446744073709551616 by decide)⟩
      · exact ⟨.inr (.inr (.inl rfl)), ok.resolve_left (by decide), hat⟩
    have hps : psD (hvs false at_) = [.agg [.c (.int .u64 42), .c (.int .u64 2)], .agg [.c (.int .u64 at_), .c (.int .u64 4)]] := rfl
    have hpl := psD_len (hvs false at_)
    rw [hvl] at hpl
    simp -dsimp -implicitDefEqProofs (disch := first | omega | (simp only [List.length_append, List.length_cons, List.length_nil, List.length_take, List.length_drop]; omega)) only [a10, ↓aPre, aPost, oneW, allOne, retV, retVA, simprocAttr]
    refine loop_of (fun s => ∃ (k : Nat), k ≤ 2 ∧ s.tm 1 = .ptr 1 0 ∧ s.tm 30 = .d (.lst 2 (psD (hvs false at_))) ∧ s.tm 31 = .d (.c (.int .i64 2)) ∧ s.tm 32 = .d (.c (.int .i64 k)) ∧ s.tm 4 = .sl 10 1 0 (magic false ++ cc (hvs false at_) false k).length ∧ s.hp 10 = some (.row 1 (li .u8 (magic false ++ cc (hvs false at_) false k))) ∧ s.hp 1 = some (.box [.d (.c (.bool false)), .d (.c (.bool false)), .d (.c (.int .u64 at_))])) (fun s => 2 - (avN (s.tm 32)).toNat) ?_ ?_
    · refine ⟨0, Nat.zero_le _, ?_⟩
      simp -dsimp -implicitDefEqProofs (disch := first | omega | (simp only [List.length_append, List.length_cons, List.length_nil, List.length_take, List.length_drop]; omega)) only [hps, magic, cc, List.append_nil, Int.natCast_zero, if_true, if_false, ↓aPre, aPost, oneW, allOne, retV, retVA, simprocAttr]
      rfl
    rintro s ⟨k, hk, hs⟩
    have hcl := cc_le (hvs false at_) false (fun k hk => by
      have := hok k (by rw [← hvl]; exact hk)
      unfold sizedP at this
      omega) k (by rw [hvl]; exact hk)
    have hml : (magic false).length = 2 := rfl
    have hrl : (magic false ++ cc (hvs false at_) false k).length = 2 + (cc (hvs false at_) false k).length := by rw [List.length_append, hml]
    by_cases hlt : k < 2
    · obtain ⟨o1, o2, o3⟩ := hok k hlt
      have hpg := psD_get (hvs false at_) (k := k) (by rw [hvl]; exact hlt)
      have hput := put_t _ _ false o1 o2 o3
      have hnx : magic false ++ cc (hvs false at_) false (k + 1) = magic false ++ cc (hvs false at_) false k ++ putL ((hvs false at_).getD k (0, 0)).1 ((hvs false at_).getD k (0, 0)).2 false := by rw [cc, List.append_assoc]
      obtain ⟨v, hv⟩ : ∃ v, v = ((hvs false at_).getD k (0, 0)).1 := ⟨_, rfl⟩
      obtain ⟨n, hn⟩ : ∃ n, n = ((hvs false at_).getD k (0, 0)).2 := ⟨_, rfl⟩
      rw [← hv, ← hn] at hpg hput hnx
      rw [← hn] at o1
      rw [← hv] at o3
      have hn8 : n ≤ 8 := by unfold sizedP at o1; omega
      have hpl2 := putL_len v n false
      obtain ⟨r, hr⟩ : ∃ r, r = magic false ++ cc (hvs false at_) false k := ⟨_, rfl⟩
      rw [← hr] at hs hnx hrl
      obtain ⟨q, hq⟩ : ∃ q, q = putL v n false := ⟨_, rfl⟩
      rw [← hq] at hput hnx hpl2
      simp -dsimp -implicitDefEqProofs (disch := first | omega | (simp only [List.length_append, List.length_cons, List.length_nil, List.length_take, List.length_drop]; omega)) only [hs, hpl, hpg, ↓aPre, aPost, oneW, allOne, retV, retVA, simprocAttr]
      refine call_giv hput ?_
      simp -dsimp -implicitDefEqProofs (disch := first | omega | (simp only [List.length_append, List.length_cons, List.length_nil, List.length_take, List.length_drop]; omega)) only [hs, ↓aPre, aPost, oneW, allOne, retV, retVA, simprocAttr]
      refine round_of ⟨k + 1, by omega, ?_⟩ ?_
      · simp -dsimp -implicitDefEqProofs (disch := first | omega | (simp only [List.length_append, List.length_cons, List.length_nil, List.length_take, List.length_drop]; omega)) only [hs, hnx, li_append, List.length_append, ↓aPre, aPost, oneW, allOne, retV, retVA, simprocAttr]
      · simp -dsimp -implicitDefEqProofs (disch := first | omega | (simp only [List.length_append, List.length_cons, List.length_nil, List.length_take, List.length_drop]; omega)) only [hs, ↓aPre, aPost, oneW, allOne, retV, retVA, simprocAttr]
        omega
    · obtain rfl : k = 2 := by omega
      obtain ⟨r, hr⟩ : ∃ r, r = magic false ++ cc (hvs false at_) false 2 := ⟨_, rfl⟩
      rw [← hr] at hs hrl
      simp -dsimp -implicitDefEqProofs (disch := first | omega | (simp only [List.length_append, List.length_cons, List.length_nil, List.length_take, List.length_drop]; omega)) only [hs, ↓aPre, aPost, oneW, allOne, retV, retVA, simprocAttr]
      rw [headL, hvl, ← hr]
      exact own_of 10 _ _ (by decide) rfl (by simp -dsimp -implicitDefEqProofs (disch := first | omega | (simp only [List.length_append, List.length_cons, List.length_nil, List.length_take, List.length_drop]; omega)) only [hs, ↓aPre, aPost, oneW, allOne, retV, retVA, simprocAttr]) rfl ⟨rfl, rfl⟩
  · have hvl : (hvs true at_).length = 4 := rfl
    have hok : ∀ k, k < 4 → sizedP (((hvs true at_).getD k (0, 0)).2 : Int) ∧ ((hvs true at_).getD k (0, 0)).1 < 256 ^ ((hvs true at_).getD k (0, 0)).2 ∧ ((hvs true at_).getD k (0, 0)).1 < 18446744073709551616 := fun k hk => by
      obtain rfl | rfl | rfl | rfl : k = 0 ∨ k = 1 ∨ k = 2 ∨ k = 3 := by omega
      · exact ⟨.inr (.inl rfl), (show (43 : Nat) < 256 ^ 2 by decide), (show (43 : Nat) < 18446744073709551616 by decide)⟩
      · exact ⟨.inr (.inl rfl), (show (8 : Nat) < 256 ^ 2 by decide), (show (8 : Nat) < 18446744073709551616 by decide)⟩
      · exact ⟨.inr (.inl rfl), (show (0 : Nat) < 256 ^ 2 by decide), (show (0 : Nat) < 18446744073709551616 by decide)⟩
      · exact ⟨.inr (.inr (.inr rfl)), hat, hat⟩
    have hps : psD (hvs true at_) = [.agg [.c (.int .u64 43), .c (.int .u64 2)], .agg [.c (.int .u64 8), .c (.int .u64 2)], .agg [.c (.int .u64 0), .c (.int .u64 2)], .agg [.c (.int .u64 at_), .c (.int .u64 8)]] := rfl
    have hpl := psD_len (hvs true at_)
    rw [hvl] at hpl
    simp -dsimp -implicitDefEqProofs (disch := first | omega | (simp only [List.length_append, List.length_cons, List.length_nil, List.length_take, List.length_drop]; omega)) only [a10, ↓aPre, aPost, oneW, allOne, retV, retVA, simprocAttr]
    refine loop_of (fun s => ∃ (k : Nat), k ≤ 4 ∧ s.tm 1 = .ptr 1 0 ∧ s.tm 30 = .d (.lst 2 (psD (hvs true at_))) ∧ s.tm 31 = .d (.c (.int .i64 4)) ∧ s.tm 32 = .d (.c (.int .i64 k)) ∧ s.tm 4 = .sl 10 1 0 (magic false ++ cc (hvs true at_) false k).length ∧ s.hp 10 = some (.row 1 (li .u8 (magic false ++ cc (hvs true at_) false k))) ∧ s.hp 1 = some (.box [.d (.c (.bool false)), .d (.c (.bool true)), .d (.c (.int .u64 at_))])) (fun s => 4 - (avN (s.tm 32)).toNat) ?_ ?_
    · refine ⟨0, Nat.zero_le _, ?_⟩
      simp -dsimp -implicitDefEqProofs (disch := first | omega | (simp only [List.length_append, List.length_cons, List.length_nil, List.length_take, List.length_drop]; omega)) only [hps, magic, cc, List.append_nil, Int.natCast_zero, if_true, if_false, ↓aPre, aPost, oneW, allOne, retV, retVA, simprocAttr]
      rfl
    rintro s ⟨k, hk, hs⟩
    have hcl := cc_le (hvs true at_) false (fun k hk => by
      have := hok k (by rw [← hvl]; exact hk)
      unfold sizedP at this
      omega) k (by rw [hvl]; exact hk)
    have hml : (magic false).length = 2 := rfl
    have hrl : (magic false ++ cc (hvs true at_) false k).length = 2 + (cc (hvs true at_) false k).length := by rw [List.length_append, hml]
    by_cases hlt : k < 4
    · obtain ⟨o1, o2, o3⟩ := hok k hlt
      have hpg := psD_get (hvs true at_) (k := k) (by rw [hvl]; exact hlt)
      have hput := put_t _ _ false o1 o2 o3
      have hnx : magic false ++ cc (hvs true at_) false (k + 1) = magic false ++ cc (hvs true at_) false k ++ putL ((hvs true at_).getD k (0, 0)).1 ((hvs true at_).getD k (0, 0)).2 false := by rw [cc, List.append_assoc]
      obtain ⟨v, hv⟩ : ∃ v, v = ((hvs true at_).getD k (0, 0)).1 := ⟨_, rfl⟩
      obtain ⟨n, hn⟩ : ∃ n, n = ((hvs true at_).getD k (0, 0)).2 := ⟨_, rfl⟩
      rw [← hv, ← hn] at hpg hput hnx
      rw [← hn] at o1
      rw [← hv] at o3
      have hn8 : n ≤ 8 := by unfold sizedP at o1; omega
      have hpl2 := putL_len v n false
      obtain ⟨r, hr⟩ : ∃ r, r = magic false ++ cc (hvs true at_) false k := ⟨_, rfl⟩
      rw [← hr] at hs hnx hrl
      obtain ⟨q, hq⟩ : ∃ q, q = putL v n false := ⟨_, rfl⟩
      rw [← hq] at hput hnx hpl2
      simp -dsimp -implicitDefEqProofs (disch := first | omega | (simp only [List.length_append, List.length_cons, List.length_nil, List.length_take, List.length_drop]; omega)) only [hs, hpl, hpg, ↓aPre, aPost, oneW, allOne, retV, retVA, simprocAttr]
      refine call_giv hput ?_
      simp -dsimp -implicitDefEqProofs (disch := first | omega | (simp only [List.length_append, List.length_cons, List.length_nil, List.length_take, List.length_drop]; omega)) only [hs, ↓aPre, aPost, oneW, allOne, retV, retVA, simprocAttr]
      refine round_of ⟨k + 1, by omega, ?_⟩ ?_
      · simp -dsimp -implicitDefEqProofs (disch := first | omega | (simp only [List.length_append, List.length_cons, List.length_nil, List.length_take, List.length_drop]; omega)) only [hs, hnx, li_append, List.length_append, ↓aPre, aPost, oneW, allOne, retV, retVA, simprocAttr]
      · simp -dsimp -implicitDefEqProofs (disch := first | omega | (simp only [List.length_append, List.length_cons, List.length_nil, List.length_take, List.length_drop]; omega)) only [hs, ↓aPre, aPost, oneW, allOne, retV, retVA, simprocAttr]
        omega
    · obtain rfl : k = 4 := by omega
      obtain ⟨r, hr⟩ : ∃ r, r = magic false ++ cc (hvs true at_) false 4 := ⟨_, rfl⟩
      rw [← hr] at hs hrl
      simp -dsimp -implicitDefEqProofs (disch := first | omega | (simp only [List.length_append, List.length_cons, List.length_nil, List.length_take, List.length_drop]; omega)) only [hs, ↓aPre, aPost, oneW, allOne, retV, retVA, simprocAttr]
      rw [headL, hvl, ← hr]
      exact own_of 10 _ _ (by decide) rfl (by simp -dsimp -implicitDefEqProofs (disch := first | omega | (simp only [List.length_append, List.length_cons, List.length_nil, List.length_take, List.length_drop]; omega)) only [hs, ↓aPre, aPost, oneW, allOne, retV, retVA, simprocAttr]) rfl ⟨rfl, rfl⟩
  · have hvl : (hvs false at_).length = 2 := rfl
    have hok : ∀ k, k < 2 → sizedP (((hvs false at_).getD k (0, 0)).2 : Int) ∧ ((hvs false at_).getD k (0, 0)).1 < 256 ^ ((hvs false at_).getD k (0, 0)).2 ∧ ((hvs false at_).getD k (0, 0)).1 < 18446744073709551616 := fun k hk => by
      obtain rfl | rfl : k = 0 ∨ k = 1 := by omega
      · exact ⟨.inr (.inl rfl), (show (42 : Nat) < 256 ^ 2 by decide), (show (42 : Nat) < 18446744073709551616 by decide)⟩
      · exact ⟨.inr (.inr (.inl rfl)), ok.resolve_left (by decide), hat⟩
    have hps : psD (hvs false at_) = [.agg [.c (.int .u64 42), .c (.int .u64 2)], .agg [.c (.int .u64 at_), .c (.int .u64 4)]] := rfl
    have hpl := psD_len (hvs false at_)
    rw [hvl] at hpl
    simp -dsimp -implicitDefEqProofs (disch := first | omega | (simp only [List.length_append, List.length_cons, List.length_nil, List.length_take, List.length_drop]; omega)) only [a10, ↓aPre, aPost, oneW, allOne, retV, retVA, simprocAttr]
    refine loop_of (fun s => ∃ (k : Nat), k ≤ 2 ∧ s.tm 1 = .ptr 1 0 ∧ s.tm 30 = .d (.lst 2 (psD (hvs false at_))) ∧ s.tm 31 = .d (.c (.int .i64 2)) ∧ s.tm 32 = .d (.c (.int .i64 k)) ∧ s.tm 4 = .sl 14 1 0 (magic true ++ cc (hvs false at_) true k).length ∧ s.hp 14 = some (.row 1 (li .u8 (magic true ++ cc (hvs false at_) true k))) ∧ s.hp 1 = some (.box [.d (.c (.bool true)), .d (.c (.bool false)), .d (.c (.int .u64 at_))])) (fun s => 2 - (avN (s.tm 32)).toNat) ?_ ?_
    · refine ⟨0, Nat.zero_le _, ?_⟩
      simp -dsimp -implicitDefEqProofs (disch := first | omega | (simp only [List.length_append, List.length_cons, List.length_nil, List.length_take, List.length_drop]; omega)) only [hps, magic, cc, List.append_nil, Int.natCast_zero, if_true, if_false, ↓aPre, aPost, oneW, allOne, retV, retVA, simprocAttr]
      rfl
    rintro s ⟨k, hk, hs⟩
    have hcl := cc_le (hvs false at_) true (fun k hk => by
      have := hok k (by rw [← hvl]; exact hk)
      unfold sizedP at this
      omega) k (by rw [hvl]; exact hk)
    have hml : (magic true).length = 2 := rfl
    have hrl : (magic true ++ cc (hvs false at_) true k).length = 2 + (cc (hvs false at_) true k).length := by rw [List.length_append, hml]
    by_cases hlt : k < 2
    · obtain ⟨o1, o2, o3⟩ := hok k hlt
      have hpg := psD_get (hvs false at_) (k := k) (by rw [hvl]; exact hlt)
      have hput := put_t _ _ true o1 o2 o3
      have hnx : magic true ++ cc (hvs false at_) true (k + 1) = magic true ++ cc (hvs false at_) true k ++ putL ((hvs false at_).getD k (0, 0)).1 ((hvs false at_).getD k (0, 0)).2 true := by rw [cc, List.append_assoc]
      obtain ⟨v, hv⟩ : ∃ v, v = ((hvs false at_).getD k (0, 0)).1 := ⟨_, rfl⟩
      obtain ⟨n, hn⟩ : ∃ n, n = ((hvs false at_).getD k (0, 0)).2 := ⟨_, rfl⟩
      rw [← hv, ← hn] at hpg hput hnx
      rw [← hn] at o1
      rw [← hv] at o3
      have hn8 : n ≤ 8 := by unfold sizedP at o1; omega
      have hpl2 := putL_len v n true
      obtain ⟨r, hr⟩ : ∃ r, r = magic true ++ cc (hvs false at_) true k := ⟨_, rfl⟩
      rw [← hr] at hs hnx hrl
      obtain ⟨q, hq⟩ : ∃ q, q = putL v n true := ⟨_, rfl⟩
      rw [← hq] at hput hnx hpl2
      simp -dsimp -implicitDefEqProofs (disch := first | omega | (simp only [List.length_append, List.length_cons, List.length_nil, List.length_take, List.length_drop]; omega)) only [hs, hpl, hpg, ↓aPre, aPost, oneW, allOne, retV, retVA, simprocAttr]
      refine call_giv hput ?_
      simp -dsimp -implicitDefEqProofs (disch := first | omega | (simp only [List.length_append, List.length_cons, List.length_nil, List.length_take, List.length_drop]; omega)) only [hs, ↓aPre, aPost, oneW, allOne, retV, retVA, simprocAttr]
      refine round_of ⟨k + 1, by omega, ?_⟩ ?_
      · simp -dsimp -implicitDefEqProofs (disch := first | omega | (simp only [List.length_append, List.length_cons, List.length_nil, List.length_take, List.length_drop]; omega)) only [hs, hnx, li_append, List.length_append, ↓aPre, aPost, oneW, allOne, retV, retVA, simprocAttr]
      · simp -dsimp -implicitDefEqProofs (disch := first | omega | (simp only [List.length_append, List.length_cons, List.length_nil, List.length_take, List.length_drop]; omega)) only [hs, ↓aPre, aPost, oneW, allOne, retV, retVA, simprocAttr]
        omega
    · obtain rfl : k = 2 := by omega
      obtain ⟨r, hr⟩ : ∃ r, r = magic true ++ cc (hvs false at_) true 2 := ⟨_, rfl⟩
      rw [← hr] at hs hrl
      simp -dsimp -implicitDefEqProofs (disch := first | omega | (simp only [List.length_append, List.length_cons, List.length_nil, List.length_take, List.length_drop]; omega)) only [hs, ↓aPre, aPost, oneW, allOne, retV, retVA, simprocAttr]
      rw [headL, hvl, ← hr]
      exact own_of 14 _ _ (by decide) rfl (by simp -dsimp -implicitDefEqProofs (disch := first | omega | (simp only [List.length_append, List.length_cons, List.length_nil, List.length_take, List.length_drop]; omega)) only [hs, ↓aPre, aPost, oneW, allOne, retV, retVA, simprocAttr]) rfl ⟨rfl, rfl⟩
  · have hvl : (hvs true at_).length = 4 := rfl
    have hok : ∀ k, k < 4 → sizedP (((hvs true at_).getD k (0, 0)).2 : Int) ∧ ((hvs true at_).getD k (0, 0)).1 < 256 ^ ((hvs true at_).getD k (0, 0)).2 ∧ ((hvs true at_).getD k (0, 0)).1 < 18446744073709551616 := fun k hk => by
      obtain rfl | rfl | rfl | rfl : k = 0 ∨ k = 1 ∨ k = 2 ∨ k = 3 := by omega
      · exact ⟨.inr (.inl rfl), (show (43 : Nat) < 256 ^ 2 by decide), (show (43 : Nat) < 18446744073709551616 by decide)⟩
      · exact ⟨.inr (.inl rfl), (show (8 : Nat) < 256 ^ 2 by decide), (show (8 : Nat) < 18446744073709551616 by decide)⟩
      · exact ⟨.inr (.inl rfl), (show (0 : Nat) < 256 ^ 2 by decide), (show (0 : Nat) < 18446744073709551616 by decide)⟩
      · exact ⟨.inr (.inr (.inr rfl)), hat, hat⟩
    have hps : psD (hvs true at_) = [.agg [.c (.int .u64 43), .c (.int .u64 2)], .agg [.c (.int .u64 8), .c (.int .u64 2)], .agg [.c (.int .u64 0), .c (.int .u64 2)], .agg [.c (.int .u64 at_), .c (.int .u64 8)]] := rfl
    have hpl := psD_len (hvs true at_)
    rw [hvl] at hpl
    simp -dsimp -implicitDefEqProofs (disch := first | omega | (simp only [List.length_append, List.length_cons, List.length_nil, List.length_take, List.length_drop]; omega)) only [a10, ↓aPre, aPost, oneW, allOne, retV, retVA, simprocAttr]
    refine loop_of (fun s => ∃ (k : Nat), k ≤ 4 ∧ s.tm 1 = .ptr 1 0 ∧ s.tm 30 = .d (.lst 2 (psD (hvs true at_))) ∧ s.tm 31 = .d (.c (.int .i64 4)) ∧ s.tm 32 = .d (.c (.int .i64 k)) ∧ s.tm 4 = .sl 14 1 0 (magic true ++ cc (hvs true at_) true k).length ∧ s.hp 14 = some (.row 1 (li .u8 (magic true ++ cc (hvs true at_) true k))) ∧ s.hp 1 = some (.box [.d (.c (.bool true)), .d (.c (.bool true)), .d (.c (.int .u64 at_))])) (fun s => 4 - (avN (s.tm 32)).toNat) ?_ ?_
    · refine ⟨0, Nat.zero_le _, ?_⟩
      simp -dsimp -implicitDefEqProofs (disch := first | omega | (simp only [List.length_append, List.length_cons, List.length_nil, List.length_take, List.length_drop]; omega)) only [hps, magic, cc, List.append_nil, Int.natCast_zero, if_true, if_false, ↓aPre, aPost, oneW, allOne, retV, retVA, simprocAttr]
      rfl
    rintro s ⟨k, hk, hs⟩
    have hcl := cc_le (hvs true at_) true (fun k hk => by
      have := hok k (by rw [← hvl]; exact hk)
      unfold sizedP at this
      omega) k (by rw [hvl]; exact hk)
    have hml : (magic true).length = 2 := rfl
    have hrl : (magic true ++ cc (hvs true at_) true k).length = 2 + (cc (hvs true at_) true k).length := by rw [List.length_append, hml]
    by_cases hlt : k < 4
    · obtain ⟨o1, o2, o3⟩ := hok k hlt
      have hpg := psD_get (hvs true at_) (k := k) (by rw [hvl]; exact hlt)
      have hput := put_t _ _ true o1 o2 o3
      have hnx : magic true ++ cc (hvs true at_) true (k + 1) = magic true ++ cc (hvs true at_) true k ++ putL ((hvs true at_).getD k (0, 0)).1 ((hvs true at_).getD k (0, 0)).2 true := by rw [cc, List.append_assoc]
      obtain ⟨v, hv⟩ : ∃ v, v = ((hvs true at_).getD k (0, 0)).1 := ⟨_, rfl⟩
      obtain ⟨n, hn⟩ : ∃ n, n = ((hvs true at_).getD k (0, 0)).2 := ⟨_, rfl⟩
      rw [← hv, ← hn] at hpg hput hnx
      rw [← hn] at o1
      rw [← hv] at o3
      have hn8 : n ≤ 8 := by unfold sizedP at o1; omega
      have hpl2 := putL_len v n true
      obtain ⟨r, hr⟩ : ∃ r, r = magic true ++ cc (hvs true at_) true k := ⟨_, rfl⟩
      rw [← hr] at hs hnx hrl
      obtain ⟨q, hq⟩ : ∃ q, q = putL v n true := ⟨_, rfl⟩
      rw [← hq] at hput hnx hpl2
      simp -dsimp -implicitDefEqProofs (disch := first | omega | (simp only [List.length_append, List.length_cons, List.length_nil, List.length_take, List.length_drop]; omega)) only [hs, hpl, hpg, ↓aPre, aPost, oneW, allOne, retV, retVA, simprocAttr]
      refine call_giv hput ?_
      simp -dsimp -implicitDefEqProofs (disch := first | omega | (simp only [List.length_append, List.length_cons, List.length_nil, List.length_take, List.length_drop]; omega)) only [hs, ↓aPre, aPost, oneW, allOne, retV, retVA, simprocAttr]
      refine round_of ⟨k + 1, by omega, ?_⟩ ?_
      · simp -dsimp -implicitDefEqProofs (disch := first | omega | (simp only [List.length_append, List.length_cons, List.length_nil, List.length_take, List.length_drop]; omega)) only [hs, hnx, li_append, List.length_append, ↓aPre, aPost, oneW, allOne, retV, retVA, simprocAttr]
      · simp -dsimp -implicitDefEqProofs (disch := first | omega | (simp only [List.length_append, List.length_cons, List.length_nil, List.length_take, List.length_drop]; omega)) only [hs, ↓aPre, aPost, oneW, allOne, retV, retVA, simprocAttr]
        omega
    · obtain rfl : k = 4 := by omega
      obtain ⟨r, hr⟩ : ∃ r, r = magic true ++ cc (hvs true at_) true 4 := ⟨_, rfl⟩
      rw [← hr] at hs hrl
      simp -dsimp -implicitDefEqProofs (disch := first | omega | (simp only [List.length_append, List.length_cons, List.length_nil, List.length_take, List.length_drop]; omega)) only [hs, ↓aPre, aPost, oneW, allOne, retV, retVA, simprocAttr]
      rw [headL, hvl, ← hr]
      exact own_of 14 _ _ (by decide) rfl (by simp -dsimp -implicitDefEqProofs (disch := first | omega | (simp only [List.length_append, List.length_cons, List.length_nil, List.length_take, List.length_drop]; omega)) only [hs, ↓aPre, aPost, oneW, allOne, retV, retVA, simprocAttr]) rfl ⟨rfl, rfl⟩
end Go.Proofs.Ytkdkhngdilhneaa

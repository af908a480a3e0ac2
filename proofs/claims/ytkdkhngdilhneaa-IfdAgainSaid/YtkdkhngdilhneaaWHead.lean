/- The head of a file: what is written. No condition but what each says. -/
import Derived.Test.YtkdkhngdilhneaaWOct
set_option linter.unusedSimpArgs false
set_option linter.unusedVariables false
set_option maxRecDepth 8000
set_option maxHeartbeats 4000000
namespace Go.Proofs.Ytkdkhngdilhneaa
open Go.Eng Go.RowKit
theorem put_e (v n : Nat) (big : Bool) (hn : sizedP n) (hv : ¬ v < 256 ^ n) (hv2 : v < 18446744073709551616) : Giv Try.prog 28 [.c (.int .u64 v), .c (.int .i64 n), .c (.bool big)] (retV [.lst 1 [], .c (.int .i64 7)]) := by
  refine Giv.of mixed c28 (Nat.le_of_ble_eq_true rfl) ?_
  have hn8 : n < 8 := by
    refine Decidable.byContradiction fun c => ?_
    obtain rfl : n = 8 := by unfold sizedP at hn; omega
    exact hv hv2
  have hn8i : (n : Int) < 8 := by omega
  have hf := fdiv_pow v n (by omega)
  have h0 : ¬ ((v / 256 ^ n : Nat) : Int) = 0 := by
    intro h
    have h3 : v / 256 ^ n = 0 := by omega
    rcases Nat.div_eq_zero_iff.1 h3 with h4 | h4
    · have := Nat.pow_pos (n := n) (show 0 < 256 by decide); omega
    · exact hv h4
  simp -dsimp -implicitDefEqProofs (disch := first | omega | (simp only [List.length_append, List.length_cons, List.length_nil, List.length_take, List.length_drop]; omega)) only [a28, ↓aPre, aPost, oneW, allOne, retV, retVA, simprocAttr]
  refine call_giv (sized_t hn) ?_
  simp -dsimp -implicitDefEqProofs (disch := first | omega | (simp only [List.length_append, List.length_cons, List.length_nil, List.length_take, List.length_drop]; omega)) only [hn8i, hf, ibne_t h0, ↓aPre, aPost, oneW, allOne, retV, retVA, simprocAttr]
  exact post_le (by repeat (first | exact leD.nil | exact leE.refl _ | exact leE.nil _ | refine leD.cons ?_ ?_ | refine leE.agg ?_))
def cc (vs : List (Nat × Nat)) (big : Bool) : Nat → List Int
  | 0 => []
  | k + 1 => cc vs big k ++ putL (vs.getD k (0, 0)).1 (vs.getD k (0, 0)).2 big
def psD (vs : List (Nat × Nat)) : List D := vs.map fun p => .agg [.c (.int .u64 p.1), .c (.int .u64 p.2)]
theorem psD_len (vs : List (Nat × Nat)) : (psD vs).length = vs.length := by simp [psD]
theorem psD_get (vs : List (Nat × Nat)) {k : Nat} (h : k < vs.length) : (psD vs).getD k default = .agg [.c (.int .u64 (vs.getD k (0, 0)).1), .c (.int .u64 (vs.getD k (0, 0)).2)] := by
  simp [psD, List.getD, h]
def magic (big : Bool) : List Int := if big = true then [77, 77] else [73, 73]
def hvs (wide : Bool) (at_ : Nat) : List (Nat × Nat) := if wide = true then [(43, 2), (8, 2), (0, 2), (at_, 8)] else [(42, 2), (at_, 4)]
def headL (big wide : Bool) (at_ : Nat) : List Int := magic big ++ cc (hvs wide at_) big (hvs wide at_).length
theorem cc_le (vs : List (Nat × Nat)) (big : Bool) (h : ∀ k, k < vs.length → (vs.getD k (0, 0)).2 ≤ 8) : ∀ k, k ≤ vs.length → (cc vs big k).length ≤ k * 8
  | 0, _ => by simp [cc]
  | k + 1, hk => by
    have h1 := cc_le vs big h k (by omega)
    have h2 := h k (by omega)
    rw [cc, List.length_append, putL_len, Nat.succ_mul]
    omega
theorem whead_t (big wide : Bool) (at_ : Nat) (hat : at_ < 18446744073709551616) (ok : wide = true ∨ at_ < 4294967296) : Giv Try.prog 10 [.agg [.c (.bool big), .c (.bool wide), .c (.int .u64 at_)]] (retV [.lst 1 (li .u8 (headL big wide at_)), .c (.int .i64 0)]) := by
  refine Giv.of mixed c10 (Nat.le_of_ble_eq_true rfl) ?_
  cases big <;> cases wide
  · have hvl : (hvs false at_).length = 2 := rfl
    have hok : ∀ k, k < 2 → sizedP (((hvs false at_).getD k (0, 0)).2 : Int) ∧ ((hvs false at_).getD k (0, 0)).1 < 256 ^ ((hvs false at_).getD k (0, 0)).2 ∧ ((hvs false at_).getD k (0, 0)).1 < 18446744073709551616 := fun k hk => by
      obtain rfl | rfl : k = 0 ∨ k = 1 := by omega
      · exact ⟨.inr (.inl rfl), (show (42 : Nat) < 256 ^ 2 by decide), (show (42 : Nat) < 18446744073709551616 by decide)⟩
      · exact ⟨.inr (.inr (.inl rfl)), ok.resolve_left (by decide), hat⟩
    have hps : psD (hvs false at_) = [.agg [.c (.int .u64 42), .c (.int .u64 2)], .agg [.c (.int .u64 at_), .c (.int .u64 4)]] := rfl
    have hpl := psD_len (hvs false at_)
    rw [hvl] at hpl
    simp -dsimp -implicitDefEqProofs (disch := first | omega | (simp only [List.length_append, List.length_cons, List.length_nil, List.length_take, List.length_drop]; omega)) only [a10, ↓aPre, aPost, oneW, allOne, retV, retVA, simprocAttr]
    refine loop_of (fun s => ∃ (k : Nat), k ≤ 2 ∧ s.tm 1 = .ptr 1 0 ∧ s.tm 30 = .d (.lst 2 (psD (hvs false at_))) ∧ s.tm 31 = .d (.c (.int .i64 2)) ∧ s.tm 32 = .d (.c (.int .i64 k)) ∧ s.tm 4 = .sl 10 1 0 (magic false ++ cc (hvs false at_) false k).length ∧ s.hp 10 = some (.row 1 (li .u8 (magic false ++ cc (hvs false at_) false k))) ∧ s.hp 1 = some (.box [.d (.c (.bool false)), .d (.c (.bool false)), .d (.c (.int .u64 at_))])) (fun s => 2 - (avN (s.tm 32)).toNat) ?_ ?_
    · refine ⟨0, Nat.zero_le _, ?_⟩
      simp -dsimp -implicitDefEqProofs (disch := first | omega | (simp only [List.length_append, List.length_cons, List.length_nil, List.length_take, List.length_drop]; omega)) only [hps, magic, cc, List.append_nil, Int.natCast_zero, if_true, if_false, ↓aPre, aPost, oneW, allOne, retV, retVA, simprocAttr]
      rfl
    rintro s ⟨k, hk, hs⟩
    have hcl := cc_le (hvs false at_) false (fun k hk => by
      have := hok k (by rw [← hvl]; exact hk)
      unfold sizedP at this
      omega) k (by rw [hvl]; exact hk)
    have hml : (magic false).length = 2 := rfl
    have hrl : (magic false ++ cc (hvs false at_) false k).length = 2 + (cc (hvs false at_) false k).length := by rw [List.length_append, hml]
    by_cases hlt : k < 2
    · obtain ⟨o1, o2, o3⟩ := hok k hlt
      have hpg := psD_get (hvs false at_) (k := k) (by rw [hvl]; exact hlt)
      have hput := put_t _ _ false o1 o2 o3
      have hnx : magic false ++ cc (hvs false at_) false (k + 1) = magic false ++ cc (hvs false at_) false k ++ putL ((hvs false at_).getD k (0, 0)).1 ((hvs false at_).getD k (0, 0)).2 false := by rw [cc, List.append_assoc]
      obtain ⟨v, hv⟩ : ∃ v, v = ((hvs false at_).getD k (0, 0)).1 := ⟨_, rfl⟩
      obtain ⟨n, hn⟩ : ∃ n, n = ((hvs false at_).getD k (0, 0)).2 := ⟨_, rfl⟩
      rw [← hv, ← hn] at hpg hput hnx
      rw [← hn] at o1
      rw [← hv] at o3
      have hn8 : n ≤ 8 := by unfold sizedP at o1; omega
      have hpl2 := putL_len v n false
      obtain ⟨r, hr⟩ : ∃ r, r = magic false ++ cc (hvs false at_) false k := ⟨_, rfl⟩
      rw [← hr] at hs hnx hrl
      obtain ⟨q, hq⟩ : ∃ q, q = putL v n false := ⟨_, rfl⟩
      rw [← hq] at hput hnx hpl2
      simp -dsimp -implicitDefEqProofs (disch := first | omega | (simp only [List.length_append, List.length_cons, List.length_nil, List.length_take, List.length_drop]; omega)) only [hs, hpl, hpg, ↓aPre, aPost, oneW, allOne, retV, retVA, simprocAttr]
      refine call_giv hput ?_
      simp -dsimp -implicitDefEqProofs (disch := first | omega | (simp only [List.length_append, List.length_cons, List.length_nil, List.length_take, List.length_drop]; omega)) only [hs, ↓aPre, aPost, oneW, allOne, retV, retVA, simprocAttr]
      refine round_of ⟨k + 1, by omega, ?_⟩ ?_
      · simp -dsimp -implicitDefEqProofs (disch := first | omega | (simp only [List.length_append, List.length_cons, List.length_nil, List.length_take, List.length_drop]; omega)) only [hs, hnx, li_append, List.length_append, ↓aPre, aPost, oneW, allOne, retV, retVA, simprocAttr]
      · simp -dsimp -implicitDefEqProofs (disch := first | omega | (simp only [List.length_append, List.length_cons, List.length_nil, List.length_take, List.length_drop]; omega)) only [hs, ↓aPre, aPost, oneW, allOne, retV, retVA, simprocAttr]
        omega
    · obtain rfl : k = 2 := by omega
      obtain ⟨r, hr⟩ : ∃ r, r = magic false ++ cc (hvs false at_) false 2 := ⟨_, rfl⟩
      rw [← hr] at hs hrl
      simp -dsimp -implicitDefEqProofs (disch := first | omega | (simp only [List.length_append, List.length_cons, List.length_nil, List.length_take, List.length_drop]; omega)) only [hs, ↓aPre, aPost, oneW, allOne, retV, retVA, simprocAttr]
      refine post_eq ?_
      rw [headL, hvl, ← hr]
  · have hvl : (hvs true at_).length = 4 := rfl
    have hok : ∀ k, k < 4 → sizedP (((hvs true at_).getD k (0, 0)).2 : Int) ∧ ((hvs true at_).getD k (0, 0)).1 < 256 ^ ((hvs true at_).getD k (0, 0)).2 ∧ ((hvs true at_).getD k (0, 0)).1 < 18446744073709551616 := fun k hk => by
      obtain rfl | rfl | rfl | rfl : k = 0 ∨ k = 1 ∨ k = 2 ∨ k = 3 := by omega
      · exact ⟨.inr (.inl rfl), (show (43 : Nat) < 256 ^ 2 by decide), (show (43 : Nat) < 18446744073709551616 by decide)⟩
      · exact ⟨.inr (.inl rfl), (show (8 : Nat) < 256 ^ 2 by decide), (show (8 : Nat) < 18446744073709551616 by decide)⟩
      · exact ⟨.inr (.inl rfl), (show (0 : Nat) < 256 ^ 2 by decide), (show (0 : Nat) < 18446744073709551616 by decide)⟩
      · exact ⟨.inr (.inr (.inr rfl)), hat, hat⟩
    have hps : psD (hvs true at_) = [.agg [.c (.int .u64 43), .c (.int .u64 2)], .agg [.c (.int .u64 8), .c (.int .u64 2)], .agg [.c (.int .u64 0), .c (.int .u64 2)], .agg [.c (.int .u64 at_), .c (.int .u64 8)]] := rfl
    have hpl := psD_len (hvs true at_)
    rw [hvl] at hpl
    simp -dsimp -implicitDefEqProofs (disch := first | omega | (simp only [List.length_append, List.length_cons, List.length_nil, List.length_take, List.length_drop]; omega)) only [a10, ↓aPre, aPost, oneW, allOne, retV, retVA, simprocAttr]
    refine loop_of (fun s => ∃ (k : Nat), k ≤ 4 ∧ s.tm 1 = .ptr 1 0 ∧ s.tm 30 = .d (.lst 2 (psD (hvs true at_))) ∧ s.tm 31 = .d (.c (.int .i64 4)) ∧ s.tm 32 = .d (.c (.int .i64 k)) ∧ s.tm 4 = .sl 10 1 0 (magic false ++ cc (hvs true at_) false k).length ∧ s.hp 10 = some (.row 1 (li .u8 (magic false ++ cc (hvs true at_) false k))) ∧ s.hp 1 = some (.box [.d (.c (.bool false)), .d (.c (.bool true)), .d (.c (.int .u64 at_))])) (fun s => 4 - (avN (s.tm 32)).toNat) ?_ ?_
    · refine ⟨0, Nat.zero_le _, ?_⟩
      simp -dsimp -implicitDefEqProofs (disch := first | omega | (simp only [List.length_append, List.length_cons, List.length_nil, List.length_take, List.length_drop]; omega)) only [hps, magic, cc, List.append_nil, Int.natCast_zero, if_true, if_false, ↓aPre, aPost, oneW, allOne, retV, retVA, simprocAttr]
      rfl
    rintro s ⟨k, hk, hs⟩
    have hcl := cc_le (hvs true at_) false (fun k hk => by
      have := hok k (by rw [← hvl]; exact hk)
      unfold sizedP at this
      omega) k (by rw [hvl]; exact hk)
    have hml : (magic false).length = 2 := rfl
    have hrl : (magic false ++ cc (hvs true at_) false k).length = 2 + (cc (hvs true at_) false k).length := by rw [List.length_append, hml]
    by_cases hlt : k < 4
    · obtain ⟨o1, o2, o3⟩ := hok k hlt
      have hpg := psD_get (hvs true at_) (k := k) (by rw [hvl]; exact hlt)
      have hput := put_t _ _ false o1 o2 o3
      have hnx : magic false ++ cc (hvs true at_) false (k + 1) = magic false ++ cc (hvs true at_) false k ++ putL ((hvs true at_).getD k (0, 0)).1 ((hvs true at_).getD k (0, 0)).2 false := by rw [cc, List.append_assoc]
      obtain ⟨v, hv⟩ : ∃ v, v = ((hvs true at_).getD k (0, 0)).1 := ⟨_, rfl⟩
      obtain ⟨n, hn⟩ : ∃ n, n = ((hvs true at_).getD k (0, 0)).2 := ⟨_, rfl⟩
      rw [← hv, ← hn] at hpg hput hnx
      rw [← hn] at o1
      rw [← hv] at o3
      have hn8 : n ≤ 8 := by unfold sizedP at o1; omega
      have hpl2 := putL_len v n false
      obtain ⟨r, hr⟩ : ∃ r, r = magic false ++ cc (hvs true at_) false k := ⟨_, rfl⟩
      rw [← hr] at hs hnx hrl
      obtain ⟨q, hq⟩ : ∃ q, q = putL v n false := ⟨_, rfl⟩
      rw [← hq] at hput hnx hpl2
      simp -dsimp -implicitDefEqProofs (disch := first | omega | (simp only [List.length_append, List.length_cons, List.length_nil, List.length_take, List.length_drop]; omega)) only [hs, hpl, hpg, ↓aPre, aPost, oneW, allOne, retV, retVA, simprocAttr]
      refine call_giv hput ?_
      simp -dsimp -implicitDefEqProofs (disch := first | omega | (simp only [List.length_append, List.length_cons, List.length_nil, List.length_take, List.length_drop]; omega)) only [hs, ↓aPre, aPost, oneW, allOne, retV, retVA, simprocAttr]
      refine round_of ⟨k + 1, by omega, ?_⟩ ?_
      · simp -dsimp -implicitDefEqProofs (disch := first | omega | (simp only [List.length_append, List.length_cons, List.length_nil, List.length_take, List.length_drop]; omega)) only [hs, hnx, li_append, List.length_append, ↓aPre, aPost, oneW, allOne, retV, retVA, simprocAttr]
      · simp -dsimp -implicitDefEqProofs (disch := first | omega | (simp only [List.length_append, List.length_cons, List.length_nil, List.length_take, List.length_drop]; omega)) only [hs, ↓aPre, aPost, oneW, allOne, retV, retVA, simprocAttr]
        omega
    · obtain rfl : k = 4 := by omega
      obtain ⟨r, hr⟩ : ∃ r, r = magic false ++ cc (hvs true at_) false 4 := ⟨_, rfl⟩
      rw [← hr] at hs hrl
      simp -dsimp -implicitDefEqProofs (disch := first | omega | (simp only [List.length_append, List.length_cons, List.length_nil, List.length_take, List.length_drop]; omega)) only [hs, ↓aPre, aPost, oneW, allOne, retV, retVA, simprocAttr]
      refine post_eq ?_
      rw [headL, hvl, ← hr]
  · have hvl : (hvs false at_).length = 2 := rfl
    have hok : ∀ k, k < 2 → sizedP (((hvs false at_).getD k (0, 0)).2 : Int) ∧ ((hvs false at_).getD k (0, 0)).1 < 256 ^ ((hvs false at_).getD k (0, 0)).2 ∧ ((hvs false at_).getD k (0, 0)).1 < 18446744073709551616 := fun k hk => by
      obtain rfl | rfl : k = 0 ∨ k = 1 := by omega
      · exact ⟨.inr (.inl rfl), (show (42 : Nat) < 256 ^ 2 by decide), (show (42 : Nat) < 18446744073709551616 by decide)⟩
      · exact ⟨.inr (.inr (.inl rfl)), ok.resolve_left (by decide), hat⟩
    have hps : psD (hvs false at_) = [.agg [.c (.int .u64 42), .c (.int .u64 2)], .agg [.c (.int .u64 at_), .c (.int .u64 4)]] := rfl
    have hpl := psD_len (hvs false at_)
    rw [hvl] at hpl
    simp -dsimp -implicitDefEqProofs (disch := first | omega | (simp only [List.length_append, List.length_cons, List.length_nil, List.length_take, List.length_drop]; omega)) only [a10, ↓aPre, aPost, oneW, allOne, retV, retVA, simprocAttr]
    refine loop_of (fun s => ∃ (k : Nat), k ≤ 2 ∧ s.tm 1 = .ptr 1 0 ∧ s.tm 30 = .d (.lst 2 (psD (hvs false at_))) ∧ s.tm 31 = .d (.c (.int .i64 2)) ∧ s.tm 32 = .d (.c (.int .i64 k)) ∧ s.tm 4 = .sl 14 1 0 (magic true ++ cc (hvs false at_) true k).length ∧ s.hp 14 = some (.row 1 (li .u8 (magic true ++ cc (hvs false at_) true k))) ∧ s.hp 1 = some (.box [.d (.c (.bool true)), .d (.c (.bool false)), .d (.c (.int .u64 at_))])) (fun s => 2 - (avN (s.tm 32)).toNat) ?_ ?_
    · refine ⟨0, Nat.zero_le _, ?_⟩
      simp -dsimp -implicitDefEqProofs (disch := first | omega | (simp only [List.length_append, List.length_cons, List.length_nil, List.length_take, List.length_drop]; omega)) only [hps, magic, cc, List.append_nil, Int.natCast_zero, if_true, if_false, ↓aPre, aPost, oneW, allOne, retV, retVA, simprocAttr]
      rfl
    rintro s ⟨k, hk, hs⟩
    have hcl := cc_le (hvs false at_) true (fun k hk => by
      have := hok k (by rw [← hvl]; exact hk)
      unfold sizedP at this
      omega) k (by rw [hvl]; exact hk)
    have hml : (magic true).length = 2 := rfl
    have hrl : (magic true ++ cc (hvs false at_) true k).length = 2 + (cc (hvs false at_) true k).length := by rw [List.length_append, hml]
    by_cases hlt : k < 2
    · obtain ⟨o1, o2, o3⟩ := hok k hlt
      have hpg := psD_get (hvs false at_) (k := k) (by rw [hvl]; exact hlt)
      have hput := put_t _ _ true o1 o2 o3
      have hnx : magic true ++ cc (hvs false at_) true (k + 1) = magic true ++ cc (hvs false at_) true k ++ putL ((hvs false at_).getD k (0, 0)).1 ((hvs false at_).getD k (0, 0)).2 true := by rw [cc, List.append_assoc]
      obtain ⟨v, hv⟩ : ∃ v, v = ((hvs false at_).getD k (0, 0)).1 := ⟨_, rfl⟩
      obtain ⟨n, hn⟩ : ∃ n, n = ((hvs false at_).getD k (0, 0)).2 := ⟨_, rfl⟩
      rw [← hv, ← hn] at hpg hput hnx
      rw [← hn] at o1
      rw [← hv] at o3
      have hn8 : n ≤ 8 := by unfold sizedP at o1; omega
      have hpl2 := putL_len v n true
      obtain ⟨r, hr⟩ : ∃ r, r = magic true ++ cc (hvs false at_) true k := ⟨_, rfl⟩
      rw [← hr] at hs hnx hrl
      obtain ⟨q, hq⟩ : ∃ q, q = putL v n true := ⟨_, rfl⟩
      rw [← hq] at hput hnx hpl2
      simp -dsimp -implicitDefEqProofs (disch := first | omega | (simp only [List.length_append, List.length_cons, List.length_nil, List.length_take, List.length_drop]; omega)) only [hs, hpl, hpg, ↓aPre, aPost, oneW, allOne, retV, retVA, simprocAttr]
      refine call_giv hput ?_
      simp -dsimp -implicitDefEqProofs (disch := first | omega | (simp only [List.length_append, List.length_cons, List.length_nil, List.length_take, List.length_drop]; omega)) only [hs, ↓aPre, aPost, oneW, allOne, retV, retVA, simprocAttr]
      refine round_of ⟨k + 1, by omega, ?_⟩ ?_
      · simp -dsimp -implicitDefEqProofs (disch := first | omega | (simp only [List.length_append, List.length_cons, List.length_nil, List.length_take, List.length_drop]; omega)) only [hs, hnx, li_append, List.length_append, ↓aPre, aPost, oneW, allOne, retV, retVA, simprocAttr]
      · simp -dsimp -implicitDefEqProofs (disch := first | omega | (simp only [List.length_append, List.length_cons, List.length_nil, List.length_take, List.length_drop]; omega)) only [hs, ↓aPre, aPost, oneW, allOne, retV, retVA, simprocAttr]
        omega
    · obtain rfl : k = 2 := by omega
      obtain ⟨r, hr⟩ : ∃ r, r = magic true ++ cc (hvs false at_) true 2 := ⟨_, rfl⟩
      rw [← hr] at hs hrl
      simp -dsimp -implicitDefEqProofs (disch := first | omega | (simp only [List.length_append, List.length_cons, List.length_nil, List.length_take, List.length_drop]; omega)) only [hs, ↓aPre, aPost, oneW, allOne, retV, retVA, simprocAttr]
      refine post_eq ?_
      rw [headL, hvl, ← hr]
  · have hvl : (hvs true at_).length = 4 := rfl
    have hok : ∀ k, k < 4 → sizedP (((hvs true at_).getD k (0, 0)).2 : Int) ∧ ((hvs true at_).getD k (0, 0)).1 < 256 ^ ((hvs true at_).getD k (0, 0)).2 ∧ ((hvs true at_).getD k (0, 0)).1 < 18446744073709551616 := fun k hk => by
      obtain rfl | rfl | rfl | rfl : k = 0 ∨ k = 1 ∨ k = 2 ∨ k = 3 := by omega
      · exact ⟨.inr (.inl rfl), (show (43 : Nat) < 256 ^ 2 by decide), (show (43 : Nat) < 18446744073709551616 by decide)⟩
      · exact ⟨.inr (.inl rfl), (show (8 : Nat) < 256 ^ 2 by decide), (show (8 : Nat) < 18446744073709551616 by decide)⟩
      · exact ⟨.inr (.inl rfl), (show (0 : Nat) < 256 ^ 2 by decide), (show (0 : Nat) < 18446744073709551616 by decide)⟩
      · exact ⟨.inr (.inr (.inr rfl)), hat, hat⟩
    have hps : psD (hvs true at_) = [.agg [.c (.int .u64 43), .c (.int .u64 2)], .agg [.c (.int .u64 8), .c (.int .u64 2)], .agg [.c (.int .u64 0), .c (.int .u64 2)], .agg [.c (.int .u64 at_), .c (.int .u64 8)]] := rfl
    have hpl := psD_len (hvs true at_)
    rw [hvl] at hpl
    simp -dsimp -implicitDefEqProofs (disch := first | omega | (simp only [List.length_append, List.length_cons, List.length_nil, List.length_take, List.length_drop]; omega)) only [a10, ↓aPre, aPost, oneW, allOne, retV, retVA, simprocAttr]
    refine loop_of (fun s => ∃ (k : Nat), k ≤ 4 ∧ s.tm 1 = .ptr 1 0 ∧ s.tm 30 = .d (.lst 2 (psD (hvs true at_))) ∧ s.tm 31 = .d (.c (.int .i64 4)) ∧ s.tm 32 = .d (.c (.int .i64 k)) ∧ s.tm 4 = .sl 14 1 0 (magic true ++ cc (hvs true at_) true k).length ∧ s.hp 14 = some (.row 1 (li .u8 (magic true ++ cc (hvs true at_) true k))) ∧ s.hp 1 = some (.box [.d (.c (.bool true)), .d (.c (.bool true)), .d (.c (.int .u64 at_))])) (fun s => 4 - (avN (s.tm 32)).toNat) ?_ ?_
    · refine ⟨0, Nat.zero_le _, ?_⟩
      simp -dsimp -implicitDefEqProofs (disch := first | omega | (simp only [List.length_append, List.length_cons, List.length_nil, List.length_take, List.length_drop]; omega)) only [hps, magic, cc, List.append_nil, Int.natCast_zero, if_true, if_false, ↓aPre, aPost, oneW, allOne, retV, retVA, simprocAttr]
      rfl
    rintro s ⟨k, hk, hs⟩
    have hcl := cc_le (hvs true at_) true (fun k hk => by
      have := hok k (by rw [← hvl]; exact hk)
      unfold sizedP at this
      omega) k (by rw [hvl]; exact hk)
    have hml : (magic true).length = 2 := rfl
    have hrl : (magic true ++ cc (hvs true at_) true k).length = 2 + (cc (hvs true at_) true k).length := by rw [List.length_append, hml]
    by_cases hlt : k < 4
    · obtain ⟨o1, o2, o3⟩ := hok k hlt
      have hpg := psD_get (hvs true at_) (k := k) (by rw [hvl]; exact hlt)
      have hput := put_t _ _ true o1 o2 o3
      have hnx : magic true ++ cc (hvs true at_) true (k + 1) = magic true ++ cc (hvs true at_) true k ++ putL ((hvs true at_).getD k (0, 0)).1 ((hvs true at_).getD k (0, 0)).2 true := by rw [cc, List.append_assoc]
      obtain ⟨v, hv⟩ : ∃ v, v = ((hvs true at_).getD k (0, 0)).1 := ⟨_, rfl⟩
      obtain ⟨n, hn⟩ : ∃ n, n = ((hvs true at_).getD k (0, 0)).2 := ⟨_, rfl⟩
      rw [← hv, ← hn] at hpg hput hnx
      rw [← hn] at o1
      rw [← hv] at o3
      have hn8 : n ≤ 8 := by unfold sizedP at o1; omega
      have hpl2 := putL_len v n true
      obtain ⟨r, hr⟩ : ∃ r, r = magic true ++ cc (hvs true at_) true k := ⟨_, rfl⟩
      rw [← hr] at hs hnx hrl
      obtain ⟨q, hq⟩ : ∃ q, q = putL v n true := ⟨_, rfl⟩
      rw [← hq] at hput hnx hpl2
      simp -dsimp -implicitDefEqProofs (disch := first | omega | (simp only [List.length_append, List.length_cons, List.length_nil, List.length_take, List.length_drop]; omega)) only [hs, hpl, hpg, ↓aPre, aPost, oneW, allOne, retV, retVA, simprocAttr]
      refine call_giv hput ?_
      simp -dsimp -implicitDefEqProofs (disch := first | omega | (simp only [List.length_append, List.length_cons, List.length_nil, List.length_take, List.length_drop]; omega)) only [hs, ↓aPre, aPost, oneW, allOne, retV, retVA, simprocAttr]
      refine round_of ⟨k + 1, by omega, ?_⟩ ?_
      · simp -dsimp -implicitDefEqProofs (disch := first | omega | (simp only [List.length_append, List.length_cons, List.length_nil, List.length_take, List.length_drop]; omega)) only [hs, hnx, li_append, List.length_append, ↓aPre, aPost, oneW, allOne, retV, retVA, simprocAttr]
      · simp -dsimp -implicitDefEqProofs (disch := first | omega | (simp only [List.length_append, List.length_cons, List.length_nil, List.length_take, List.length_drop]; omega)) only [hs, ↓aPre, aPost, oneW, allOne, retV, retVA, simprocAttr]
        omega
    · obtain rfl : k = 4 := by omega
      obtain ⟨r, hr⟩ : ∃ r, r = magic true ++ cc (hvs true at_) true 4 := ⟨_, rfl⟩
      rw [← hr] at hs hrl
      simp -dsimp -implicitDefEqProofs (disch := first | omega | (simp only [List.length_append, List.length_cons, List.length_nil, List.length_take, List.length_drop]; omega)) only [hs, ↓aPre, aPost, oneW, allOne, retV, retVA, simprocAttr]
      refine post_eq ?_
      rw [headL, hvl, ← hr]
theorem rp (v n : Nat) (big : Bool) (hn : sizedP n) (hv : v < 256 ^ n) (hv2 : v < 18446744073709551616) : Giv Try.prog 29 [.c (.int .u64 v), .c (.int .i64 n), .c (.bool big)] (retV [.c (.string (strOfNums (putL v n big))), .c (.int .i64 0)]) :=
  rput_any v n big hn hv2 _ (fun _ => rfl) fun h => absurd hv h
theorem rhead_t (big wide : Bool) (at_ : Nat) (hat : at_ < 18446744073709551616) (ok : wide = true ∨ at_ < 4294967296) : Giv Try.prog 11 [.agg [.c (.bool big), .c (.bool wide), .c (.int .u64 at_)]] (retV [.c (.string (strOfNums (headL big wide at_))), .c (.int .i64 0)]) := by
  refine Giv.of mixed c11 (Nat.le_of_ble_eq_true rfl) ?_
  have g43 := rp 43 2 big (.inr (.inl rfl)) (by decide) (by decide)
  have g42 := rp 42 2 big (.inr (.inl rfl)) (by decide) (by decide)
  have g8 := rp 8 2 big (.inr (.inl rfl)) (by decide) (by decide)
  have g0 := rp 0 2 big (.inr (.inl rfl)) (by decide) (by decide)
  have g64 := rp at_ 8 big (.inr (.inr (.inr rfl))) hat hat
  have l1 := putL_len 43 2 big
  have l2 := putL_len 8 2 big
  have l3 := putL_len 0 2 big
  have l4 := putL_len at_ 8 big
  have l5 := putL_len 42 2 big
  have l6 := putL_len at_ 4 big
  cases wide with
  | true =>
    cases big
    all_goals
      simp -dsimp -implicitDefEqProofs (disch := first | omega | (simp only [List.length_append, List.length_cons, List.length_nil, List.length_take, List.length_drop]; omega)) only [a11, ↓aPre, aPost, oneW, allOne, retV, retVA, simprocAttr]
      refine call_giv g43 ?_
      simp -dsimp -implicitDefEqProofs (disch := first | omega | (simp only [List.length_append, List.length_cons, List.length_nil, List.length_take, List.length_drop]; omega)) only [↓aPre, aPost, oneW, allOne, retV, retVA, simprocAttr]
      refine call_giv g8 ?_
      simp -dsimp -implicitDefEqProofs (disch := first | omega | (simp only [List.length_append, List.length_cons, List.length_nil, List.length_take, List.length_drop]; omega)) only [↓aPre, aPost, oneW, allOne, retV, retVA, simprocAttr]
      refine call_giv g0 ?_
      simp -dsimp -implicitDefEqProofs (disch := first | omega | (simp only [List.length_append, List.length_cons, List.length_nil, List.length_take, List.length_drop]; omega)) only [↓aPre, aPost, oneW, allOne, retV, retVA, simprocAttr]
      refine call_giv g64 ?_
      simp -dsimp -implicitDefEqProofs (disch := first | omega | (simp only [List.length_append, List.length_cons, List.length_nil, List.length_take, List.length_drop]; omega)) only [l1, l2, l3, l4, ↓aPre, aPost, oneW, allOne, retV, retVA, simprocAttr]
      refine post_eq ?_
      simp [headL, hvs, magic, cc]
  | false =>
    have g32 := rp at_ 4 big (.inr (.inr (.inl rfl))) (ok.resolve_left (by decide)) hat
    cases big
    all_goals
      simp -dsimp -implicitDefEqProofs (disch := first | omega | (simp only [List.length_append, List.length_cons, List.length_nil, List.length_take, List.length_drop]; omega)) only [a11, ↓aPre, aPost, oneW, allOne, retV, retVA, simprocAttr]
      refine call_giv g42 ?_
      simp -dsimp -implicitDefEqProofs (disch := first | omega | (simp only [List.length_append, List.length_cons, List.length_nil, List.length_take, List.length_drop]; omega)) only [↓aPre, aPost, oneW, allOne, retV, retVA, simprocAttr]
      refine call_giv g32 ?_
      simp -dsimp -implicitDefEqProofs (disch := first | omega | (simp only [List.length_append, List.length_cons, List.length_nil, List.length_take, List.length_drop]; omega)) only [l5, l6, ↓aPre, aPost, oneW, allOne, retV, retVA, simprocAttr]
      refine post_eq ?_
      simp [headL, hvs, magic, cc]
theorem whead_e (big : Bool) (at_ : Nat) (hat : at_ < 18446744073709551616) (bad : ¬ at_ < 4294967296) : Giv Try.prog 10 [.agg [.c (.bool big), .c (.bool false), .c (.int .u64 at_)]] (retV [.lst 1 [], .c (.int .i64 11)]) := by
  refine Giv.of mixed c10 (Nat.le_of_ble_eq_true rfl) ?_
  cases big
  · have hps : psD (hvs false at_) = [.agg [.c (.int .u64 42), .c (.int .u64 2)], .agg [.c (.int .u64 at_), .c (.int .u64 4)]] := rfl
    have hpl := psD_len (hvs false at_)
    have hvl : (hvs false at_).length = 2 := rfl
    rw [hvl] at hpl
    have g42 := put_t 42 2 false (.inr (.inl rfl)) (by decide) (by decide)
    have ge := put_e at_ 4 false (.inr (.inr (.inl rfl))) (show ¬ at_ < 256 ^ 4 from bad) hat
    have l42 := putL_len 42 2 false
    simp -dsimp -implicitDefEqProofs (disch := first | omega | (simp only [List.length_append, List.length_cons, List.length_nil, List.length_take, List.length_drop]; omega)) only [a10, ↓aPre, aPost, oneW, allOne, retV, retVA, simprocAttr]
    refine loop_of (fun s => ∃ (k : Nat), k ≤ 1 ∧ s.tm 1 = .ptr 1 0 ∧ s.tm 30 = .d (.lst 2 (psD (hvs false at_))) ∧ s.tm 31 = .d (.c (.int .i64 2)) ∧ s.tm 32 = .d (.c (.int .i64 k)) ∧ s.tm 4 = .sl 10 1 0 (magic false ++ cc (hvs false at_) false k).length ∧ s.hp 10 = some (.row 1 (li .u8 (magic false ++ cc (hvs false at_) false k))) ∧ s.hp 1 = some (.box [.d (.c (.bool false)), .d (.c (.bool false)), .d (.c (.int .u64 at_))])) (fun s => 2 - (avN (s.tm 32)).toNat) ?_ ?_
    · refine ⟨0, Nat.zero_le _, ?_⟩
      simp -dsimp -implicitDefEqProofs (disch := first | omega | (simp only [List.length_append, List.length_cons, List.length_nil, List.length_take, List.length_drop]; omega)) only [hps, magic, cc, List.append_nil, Int.natCast_zero, if_true, if_false, ↓aPre, aPost, oneW, allOne, retV, retVA, simprocAttr]
      rfl
    rintro s ⟨k, hk, hs⟩
    obtain rfl | rfl : k = 0 ∨ k = 1 := by omega
    · have hpg2 : (psD (hvs false at_)).getD 0 default = .agg [.c (.int .u64 42), .c (.int .u64 2)] := rfl
      have hnx : magic false ++ cc (hvs false at_) false 1 = magic false ++ cc (hvs false at_) false 0 ++ putL 42 2 false := by rw [cc, List.append_assoc]; rfl
      have hrl : (magic false ++ cc (hvs false at_) false 0).length = 2 := rfl
      obtain ⟨r, hr⟩ : ∃ r, r = magic false ++ cc (hvs false at_) false 0 := ⟨_, rfl⟩
      rw [← hr] at hs hnx hrl
      obtain ⟨q, hq⟩ : ∃ q, q = putL 42 2 false := ⟨_, rfl⟩
      rw [← hq] at g42 hnx l42
      simp -dsimp -implicitDefEqProofs (disch := first | omega | (simp only [List.length_append, List.length_cons, List.length_nil, List.length_take, List.length_drop]; omega)) only [hs, hpl, hpg2, Int.natCast_zero, ↓aPre, aPost, oneW, allOne, retV, retVA, simprocAttr]
      refine call_giv g42 ?_
      simp -dsimp -implicitDefEqProofs (disch := first | omega | (simp only [List.length_append, List.length_cons, List.length_nil, List.length_take, List.length_drop]; omega)) only [hs, ↓aPre, aPost, oneW, allOne, retV, retVA, simprocAttr]
      refine round_of ⟨1, by omega, ?_⟩ ?_
      · simp -dsimp -implicitDefEqProofs (disch := first | omega | (simp only [List.length_append, List.length_cons, List.length_nil, List.length_take, List.length_drop]; omega)) only [hs, hnx, li_append, List.length_append, ↓aPre, aPost, oneW, allOne, retV, retVA, simprocAttr]
        try rfl
      · simp -dsimp -implicitDefEqProofs (disch := first | omega | (simp only [List.length_append, List.length_cons, List.length_nil, List.length_take, List.length_drop]; omega)) only [hs, ↓aPre, aPost, oneW, allOne, retV, retVA, simprocAttr]
        try omega
    · have hpg2 : (psD (hvs false at_)).getD 1 default = .agg [.c (.int .u64 at_), .c (.int .u64 4)] := rfl
      simp -dsimp -implicitDefEqProofs (disch := first | omega | (simp only [List.length_append, List.length_cons, List.length_nil, List.length_take, List.length_drop]; omega)) only [hs, hpl, hpg2, ↓aPre, aPost, oneW, allOne, retV, retVA, simprocAttr]
      refine call_giv ge ?_
      simp -dsimp -implicitDefEqProofs (disch := first | omega | (simp only [List.length_append, List.length_cons, List.length_nil, List.length_take, List.length_drop]; omega)) only [↓aPre, aPost, oneW, allOne, retV, retVA, simprocAttr]
      exact post_le (by repeat (first | exact leD.nil | exact leE.refl _ | exact leE.nil _ | refine leD.cons ?_ ?_ | refine leE.agg ?_))
  · have hps : psD (hvs false at_) = [.agg [.c (.int .u64 42), .c (.int .u64 2)], .agg [.c (.int .u64 at_), .c (.int .u64 4)]] := rfl
    have hpl := psD_len (hvs false at_)
    have hvl : (hvs false at_).length = 2 := rfl
    rw [hvl] at hpl
    have g42 := put_t 42 2 true (.inr (.inl rfl)) (by decide) (by decide)
    have ge := put_e at_ 4 true (.inr (.inr (.inl rfl))) (show ¬ at_ < 256 ^ 4 from bad) hat
    have l42 := putL_len 42 2 true
    simp -dsimp -implicitDefEqProofs (disch := first | omega | (simp only [List.length_append, List.length_cons, List.length_nil, List.length_take, List.length_drop]; omega)) only [a10, ↓aPre, aPost, oneW, allOne, retV, retVA, simprocAttr]
    refine loop_of (fun s => ∃ (k : Nat), k ≤ 1 ∧ s.tm 1 = .ptr 1 0 ∧ s.tm 30 = .d (.lst 2 (psD (hvs false at_))) ∧ s.tm 31 = .d (.c (.int .i64 2)) ∧ s.tm 32 = .d (.c (.int .i64 k)) ∧ s.tm 4 = .sl 14 1 0 (magic true ++ cc (hvs false at_) true k).length ∧ s.hp 14 = some (.row 1 (li .u8 (magic true ++ cc (hvs false at_) true k))) ∧ s.hp 1 = some (.box [.d (.c (.bool true)), .d (.c (.bool false)), .d (.c (.int .u64 at_))])) (fun s => 2 - (avN (s.tm 32)).toNat) ?_ ?_
    · refine ⟨0, Nat.zero_le _, ?_⟩
      simp -dsimp -implicitDefEqProofs (disch := first | omega | (simp only [List.length_append, List.length_cons, List.length_nil, List.length_take, List.length_drop]; omega)) only [hps, magic, cc, List.append_nil, Int.natCast_zero, if_true, if_false, ↓aPre, aPost, oneW, allOne, retV, retVA, simprocAttr]
      rfl
    rintro s ⟨k, hk, hs⟩
    obtain rfl | rfl : k = 0 ∨ k = 1 := by omega
    · have hpg2 : (psD (hvs false at_)).getD 0 default = .agg [.c (.int .u64 42), .c (.int .u64 2)] := rfl
      have hnx : magic true ++ cc (hvs false at_) true 1 = magic true ++ cc (hvs false at_) true 0 ++ putL 42 2 true := by rw [cc, List.append_assoc]; rfl
      have hrl : (magic true ++ cc (hvs false at_) true 0).length = 2 := rfl
      obtain ⟨r, hr⟩ : ∃ r, r = magic true ++ cc (hvs false at_) true 0 := ⟨_, rfl⟩
      rw [← hr] at hs hnx hrl
      obtain ⟨q, hq⟩ : ∃ q, q = putL 42 2 true := ⟨_, rfl⟩
      rw [← hq] at g42 hnx l42
      simp -dsimp -implicitDefEqProofs (disch := first | omega | (simp only [List.length_append, List.length_cons, List.length_nil, List.length_take, List.length_drop]; omega)) only [hs, hpl, hpg2, Int.natCast_zero, ↓aPre, aPost, oneW, allOne, retV, retVA, simprocAttr]
      refine call_giv g42 ?_
      simp -dsimp -implicitDefEqProofs (disch := first | omega | (simp only [List.length_append, List.length_cons, List.length_nil, List.length_take, List.length_drop]; omega)) only [hs, ↓aPre, aPost, oneW, allOne, retV, retVA, simprocAttr]
      refine round_of ⟨1, by omega, ?_⟩ ?_
      · simp -dsimp -implicitDefEqProofs (disch := first | omega | (simp only [List.length_append, List.length_cons, List.length_nil, List.length_take, List.length_drop]; omega)) only [hs, hnx, li_append, List.length_append, ↓aPre, aPost, oneW, allOne, retV, retVA, simprocAttr]
        try rfl
      · simp -dsimp -implicitDefEqProofs (disch := first | omega | (simp only [List.length_append, List.length_cons, List.length_nil, List.length_take, List.length_drop]; omega)) only [hs, ↓aPre, aPost, oneW, allOne, retV, retVA, simprocAttr]
        try omega
    · have hpg2 : (psD (hvs false at_)).getD 1 default = .agg [.c (.int .u64 at_), .c (.int .u64 4)] := rfl
      simp -dsimp -implicitDefEqProofs (disch := first | omega | (simp only [List.length_append, List.length_cons, List.length_nil, List.length_take, List.length_drop]; omega)) only [hs, hpl, hpg2, ↓aPre, aPost, oneW, allOne, retV, retVA, simprocAttr]
      refine call_giv ge ?_
      simp -dsimp -implicitDefEqProofs (disch := first | omega | (simp only [List.length_append, List.length_cons, List.length_nil, List.length_take, List.length_drop]; omega)) only [↓aPre, aPost, oneW, allOne, retV, retVA, simprocAttr]
      exact post_le (by repeat (first | exact leD.nil | exact leE.refl _ | exact leE.nil _ | refine leD.cons ?_ ?_ | refine leE.agg ?_))
theorem rhead_e (big : Bool) (at_ : Nat) (hat : at_ < 18446744073709551616) (bad : ¬ at_ < 4294967296) : Giv Try.prog 11 [.agg [.c (.bool big), .c (.bool false), .c (.int .u64 at_)]] (retV [.c (.string (strOfNums [])), .c (.int .i64 11)]) := by
  refine Giv.of mixed c11 (Nat.le_of_ble_eq_true rfl) ?_
  have g42 := rp 42 2 big (.inr (.inl rfl)) (by decide) (by decide)
  have ge : Giv Try.prog 29 [.c (.int .u64 at_), .c (.int .i64 (4 : Nat)), .c (.bool big)] (retV [.c (.string (strOfNums [])), .c (.int .i64 7)]) := rput_any at_ 4 big (.inr (.inr (.inl rfl))) hat _ (fun h => absurd h bad) fun _ => rfl
  cases big
  all_goals
    simp -dsimp -implicitDefEqProofs (disch := first | omega | (simp only [List.length_append, List.length_cons, List.length_nil, List.length_take, List.length_drop]; omega)) only [a11, ↓aPre, aPost, oneW, allOne, retV, retVA, simprocAttr]
    refine call_giv g42 ?_
    simp -dsimp -implicitDefEqProofs (disch := first | omega | (simp only [List.length_append, List.length_cons, List.length_nil, List.length_take, List.length_drop]; omega)) only [↓aPre, aPost, oneW, allOne, retV, retVA, simprocAttr]
    refine call_giv ge ?_
    simp -dsimp -implicitDefEqProofs (disch := first | omega | (simp only [List.length_append, List.length_cons, List.length_nil, List.length_take, List.length_drop]; omega)) only [↓aPre, aPost, oneW, allOne, retV, retVA, simprocAttr]
    exact post_eq rfl
end Go.Proofs.Ytkdkhngdilhneaa

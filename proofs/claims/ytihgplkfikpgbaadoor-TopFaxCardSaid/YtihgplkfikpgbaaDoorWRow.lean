/- A row written by its lengths. No condition but what each says. -/
import Derived.Test.YtihgplkfikpgbaaDoorWLen
import Derived.Test.YtihgplkfikpgbaaDoorWRuns
set_option linter.unusedSimpArgs false
set_option linter.unusedVariables false
set_option maxRecDepth 8000
set_option maxHeartbeats 4000000
namespace Go.Proofs.YtihgplkfikpgbaaDoor
open Go.Eng Go.RowKit
def a16 : AFn := ⟨9, (.seq (.ops [⟨(.some 2), (.mov (.const (.bool false))), .none⟩]) (.seq (.ops [⟨(.some 3), (.mov (.tmp 0)), .none⟩, ⟨(.some 4), (.bin .geq (.tmp 3) (.const (.int .i64 1))), .none⟩, ⟨(.some 5), (.mov (.tmp 4)), .none⟩, ⟨(.some 6), (.mov (.tmp 0)), (.some (5, true))⟩, ⟨(.some 7), (.bin .leq (.tmp 6) (.const (.int .i64 32768))), (.some (5, true))⟩, ⟨(.some 8), (.pick (.tmp 5) (.tmp 7) (.const (.bool false))), .none⟩, ⟨(.some 2), (.mov (.tmp 8)), .none⟩]) .ret)), [(2, .none)]⟩
theorem c16 : cmpF Tryd.prog [] [] 16 = some a16 := by kernel_rfl
def a17 : AFn := ⟨48, (.seq (.ops [⟨(.some 8), (.mov (.const (.int .i64 0))), .none⟩]) (.seq (.seq (.ops [⟨(.some 13), (.mov (.tmp 0)), .none⟩, ⟨(.some 14), (.isNilP false (.tmp 13)), .none⟩, ⟨(.some 15), (.mov (.tmp 14)), .none⟩, ⟨(.some 16), (.mov (.tmp 1)), (.some (15, false))⟩, ⟨(.some 17), (.isNilP false (.tmp 16)), (.some (15, false))⟩, ⟨(.some 18), (.pick (.tmp 15) (.const (.bool true)) (.tmp 17)), .none⟩, ⟨(.some 19), (.mov (.tmp 18)), .none⟩, ⟨(.some 20), (.mov (.tmp 3)), (.some (19, false))⟩, ⟨(.some 21), (.call 21 16 [(.tmp 20)]), (.some (19, false))⟩, ⟨(.some 22), (.un .not (.tmp 21)), (.some (19, false))⟩, ⟨(.some 23), (.pick (.tmp 19) (.const (.bool true)) (.tmp 22)), .none⟩]) (.cond (.tmp 23) (.seq (.ops [⟨(.some 8), (.mov (.const (.int .i64 1))), .none⟩]) .ret) .skip)) (.seq (.ops [⟨(.some 25), (.mov (.tmp 2)), .none⟩, ⟨(.some 26), (.mov (.tmp 3)), .none⟩, ⟨(.some 27), (.call 27 35 [(.tmp 25), (.tmp 26)]), .none⟩, ⟨(.some 24), (.mov (.tmp 27)), .none⟩, ⟨(.some 28), (.ext (.tmp 24) 0), .none⟩, ⟨(.some 29), (.ext (.tmp 24) 1), .none⟩, ⟨(.some 9), (.mov (.tmp 28)), .none⟩, ⟨(.some 10), (.mov (.tmp 29)), .none⟩]) (.seq (.seq (.ops [⟨(.some 30), (.mov (.tmp 9)), .none⟩, ⟨(.some 31), (.len (.tmp 30)), .none⟩, ⟨(.some 32), (.mov (.const (.int .i64 0))), .none⟩]) (.block 0 (.loop (.seq (.ops [⟨(.some 33), (.bin .lss (.tmp 32) (.tmp 31)), .none⟩]) (.seq (.cond (.tmp 33) .skip (.exit 0)) (.seq (.block 1 (.seq (.ops [⟨(.some 34), (.mov (.tmp 32)), .none⟩, ⟨(.some 35), (.iadr 1 (.tmp 30) (.tmp 32)), .none⟩, ⟨(.some 36), (.ld (.tmp 35)), .none⟩, ⟨(.some 11), (.mov (.tmp 34)), .none⟩, ⟨(.some 12), (.mov (.tmp 36)), .none⟩]) (.seq (.ops [⟨(.some 37), (.mov (.tmp 10)), .none⟩, ⟨(.some 38), (.bin .eql (.tmp 37) (.const (.int .i64 0))), .none⟩]) (.cond (.tmp 38) (.ops [⟨(.some 39), (.mov (.tmp 1)), .none⟩, ⟨(.some 40), (.mov (.tmp 0)), .none⟩, ⟨(.some 41), (.mov (.tmp 12)), .none⟩, ⟨(.some 42), (.mov (.tmp 11)), .none⟩, ⟨(.some 43), (.bin .rem (.tmp 42) (.const (.int .i64 2))), .none⟩, ⟨(.some 44), (.bin .eql (.tmp 43) (.const (.int .i64 1))), .none⟩, ⟨(.some 45), (.callm 36 [(.tmp 39), (.tmp 40), (.tmp 41), (.tmp 44)]), .none⟩, ⟨(.some 10), (.mov (.tmp 45)), .none⟩]) .skip)))) (.ops [⟨(.some 46), (.bin .add (.tmp 32) (.const (.int .i64 1))), .none⟩, ⟨(.some 32), (.mov (.tmp 46)), .none⟩]))))))) (.seq (.ops [⟨(.some 47), (.mov (.tmp 10)), .none⟩, ⟨(.some 8), (.mov (.tmp 47)), .none⟩]) .ret))))), [(8, .none)]⟩
theorem c17 : cmpF Tryd.prog [3000036] [] 17 = some a17 := by kernel_rfl
/-- the bits of lengths, from the i-th on -/
def rowS : List Int → Nat → List Int
  | [], _ => []
  | x :: r, i => lB (decide (i % 2 = 1)) x ++ rowS r (i + 1)
theorem fits_giv (w : Int) (h : 1 ≤ w ∧ w ≤ 300) : Giv Tryd.prog 16 [.c (.int .i64 w)] (retV [.c (.bool true)]) := by
  refine Giv.of mixed c16 (Nat.le_of_ble_eq_true rfl) ?_
  have h1 : w ≥ 1 := h.1
  have h2 : w ≤ 32768 := by omega
  simp -dsimp -implicitDefEqProofs (disch := first | omega | (simp only [List.length_append, List.length_cons, List.length_nil, List.length_take, List.length_drop]; omega)) only [a16, h1, h2, ↓aPre, aPost, oneW, allOne, retV, retVA, simprocAttr]
  exact post_eq rfl
theorem lB_len (bl : Bool) (n : Int) (h : 0 ≤ n ∧ n ≤ 2000) : (lB bl n).length ≤ 26 := by
  unfold lB
  rw [List.length_append]
  have h1 := (wd_ok bl (i := n.toNat % 64) (by omega)).2.2
  split
  · have h2 := (wd_ok bl (i := 63 + n.toNat / 64) (by omega)).2.2
    omega
  · rw [List.length_nil]; omega
theorem rowS_len : ∀ (L : List Int) (i : Nat), (∀ x ∈ L, 0 ≤ x ∧ x ≤ 2000) → (rowS L i).length ≤ L.length * 26
  | [], i, _ => Nat.zero_le _
  | x :: r, i, h => by
    have := rowS_len r (i + 1) fun z hz => h z (.tail _ hz)
    have := lB_len (decide (i % 2 = 1)) x (h x (.head _))
    rw [rowS, List.length_append, List.length_cons]
    omega
theorem wrow_m (f : Nat → Int) (hf : Bit f) (n : Nat) (row : List Int) (w : Int) (hw : 1 ≤ w ∧ w ≤ 300) (hr : row.length ≤ 300) (L : List Int) (hL : Giv Tryd.prog 35 [.lst 1 (li .i64 row), .c (.int .i64 w)] (retV [.lst 1 (li .i64 L), .c (.int .i64 0)])) (hLb : ∀ x ∈ L, 0 ≤ x ∧ x ≤ 300) (hLl : L.length ≤ 301) (hA : At f n (rowS L 0)) (hn : n < 800000) :
    GivM Tryd.prog 17 [.ptr 2000000 0, .d coD, .d (.lst 1 (li .i64 row)), .d (.c (.int .i64 w))] [(2000000, .box [.sl 1000000 1 0 (pk f n).length, .d (.c (.int .i64 (n : Nat))), .d (.c (.bool false))]), (1000000, .row 1 (li .u8 (pk f n)))] (.d (.c (.int .i64 0))) [(2000000, .box [.sl 1000000 1 0 (pk f (n + (rowS L 0).length)).length, .d (.c (.int .i64 ((n + (rowS L 0).length) : Nat))), .d (.c (.bool false))]), (1000000, .row 1 (li .u8 (pk f (n + (rowS L 0).length))))] := by
  have hll := li_length (k := .i64) (l := L)
  have hlen := rowS_len L 0 fun x hx => ⟨(hLb x hx).1, by have := (hLb x hx).2; omega⟩
  obtain ⟨C, hC⟩ : ∃ C : List D, coD = .ref C := ⟨_, rfl⟩
  have hwl : ∀ (m k : Nat) (bl : Bool), k ≤ 300 → At f m (lB bl k) → m < 900000 → GivM Tryd.prog 36 [.d (.ref C), .ptr 2000000 0, .d (.c (.int .i64 k)), .d (.c (.bool bl))] [(2000000, .box [.sl 1000000 1 0 (pk f m).length, .d (.c (.int .i64 (m : Nat))), .d (.c (.bool false))]), (1000000, .row 1 (li .u8 (pk f m)))] (.d (.c (.int .i64 0))) [(2000000, .box [.sl 1000000 1 0 (pk f (m + (lB bl k).length)).length, .d (.c (.int .i64 ((m + (lB bl k).length) : Nat))), .d (.c (.bool false))]), (1000000, .row 1 (li .u8 (pk f (m + (lB bl k).length))))] := fun m k bl h1 h2 h3 => by
    have := wlen_m f hf m k bl (by omega) h2 h3
    rwa [hC] at this
  rw [hC]
  refine GivM.of mixed c17 (Nat.le_of_ble_eq_true rfl) rfl rfl ?_
  simp -dsimp -implicitDefEqProofs (disch := first | omega | (simp only [List.length_append, List.length_cons, List.length_nil, List.length_take, List.length_drop]; omega)) only [a17, ↓aPre, aPost, oneW, allOne, retV, retVA, simprocAttr]
  refine call_giv (fits_giv w hw) ?_
  simp -dsimp -implicitDefEqProofs (disch := first | omega | (simp only [List.length_append, List.length_cons, List.length_nil, List.length_take, List.length_drop]; omega)) only [↓aPre, aPost, oneW, allOne, retV, retVA, simprocAttr]
  refine call_giv hL ?_
  simp -dsimp -implicitDefEqProofs (disch := first | omega | (simp only [List.length_append, List.length_cons, List.length_nil, List.length_take, List.length_drop]; omega)) only [hll, ↓aPre, aPost, oneW, allOne, retV, retVA, simprocAttr]
  refine loop_of (fun s => ∃ (k m : Nat), k ≤ L.length ∧ At f m (rowS (L.drop k) k) ∧ m + (rowS (L.drop k) k).length = n + (rowS L 0).length ∧ s.tm 0 = .ptr 2000000 0 ∧ s.tm 1 = .d (.ref C) ∧ s.tm 10 = .d (.c (.int .i64 0)) ∧ s.tm 30 = .d (.lst 1 (li .i64 L)) ∧ s.tm 31 = .d (.c (.int .i64 L.length)) ∧ s.tm 32 = .d (.c (.int .i64 k)) ∧ s.hp 2000000 = some (.box [.sl 1000000 1 0 (pk f m).length, .d (.c (.int .i64 (m : Nat))), .d (.c (.bool false))]) ∧ s.hp 1000000 = some (.row 1 (li .u8 (pk f m)))) (fun s => L.length - (avN (s.tm 32)).toNat) ?_ ?_
  · refine ⟨0, n, Nat.zero_le _, by rw [List.drop_zero]; exact hA, by rw [List.drop_zero], ?_⟩
    simp -dsimp -implicitDefEqProofs (disch := first | omega | (simp only [List.length_append, List.length_cons, List.length_nil, List.length_take, List.length_drop]; omega)) only [Int.natCast_zero, ↓aPre, aPost, oneW, allOne, retV, retVA, simprocAttr]
  rintro s ⟨k, m, hk, hA, hm, hs⟩
  by_cases hlt : k < L.length
  · have hd : L.drop k = L.getD k 0 :: L.drop (k + 1) := by
      rw [List.drop_eq_getElem_cons hlt]
      simp only [List.getD, List.getElem?_eq_getElem hlt, Option.getD_some]
    have hxb : 0 ≤ L.getD k 0 ∧ L.getD k 0 ≤ 300 := hLb _ (by
      simp only [List.getD, List.getElem?_eq_getElem hlt, Option.getD_some]
      exact List.getElem_mem _)
    rw [hd, rowS] at hA hm
    obtain ⟨x, hx⟩ : ∃ x : Nat, L.getD k 0 = (x : Int) := ⟨(L.getD k 0).toNat, by omega⟩
    rw [hx] at hA hm hxb
    obtain ⟨A1, A2⟩ := hA.app
    rw [List.length_append] at hm
    have hc := hwl m x (decide (k % 2 = 1)) (by omega) A1 (by omega)
    have hmod : (k : Int).tmod 2 = ((k % 2 : Nat) : Int) := by rw [Int.tmod_eq_emod_of_nonneg (by omega)]; omega
    have hbq : decide (((k % 2 : Nat) : Int) = 1) = decide (k % 2 = 1) := by
      simp only [decide_eq_decide]; omega
    simp -dsimp -implicitDefEqProofs (disch := first | omega | (simp only [List.length_append, List.length_cons, List.length_nil, List.length_take, List.length_drop]; omega)) only [hs, hll, hx, ibeq_t, hmod, hbq, ↓aPre, aPost, oneW, allOne, retV, retVA, simprocAttr]
    refine call_mut hc [] rfl rfl ?_ ?_
    · simp -dsimp -implicitDefEqProofs (disch := first | omega | (simp only [List.length_append, List.length_cons, List.length_nil, List.length_take, List.length_drop]; omega)) only [hs, ↓aPre, aPost, oneW, allOne, retV, retVA, simprocAttr]
    simp -dsimp -implicitDefEqProofs (disch := first | omega | (simp only [List.length_append, List.length_cons, List.length_nil, List.length_take, List.length_drop]; omega)) only [hs, ↓aPre, aPost, oneW, allOne, retV, retVA, simprocAttr]
    refine round_of ⟨k + 1, m + (lB (decide (k % 2 = 1)) x).length, by omega, A2, by omega, ?_⟩ ?_
    · simp -dsimp -implicitDefEqProofs (disch := first | omega | (simp only [List.length_append, List.length_cons, List.length_nil, List.length_take, List.length_drop]; omega)) only [hs, ↓aPre, aPost, oneW, allOne, retV, retVA, simprocAttr]
    · simp -dsimp -implicitDefEqProofs (disch := first | omega | (simp only [List.length_append, List.length_cons, List.length_nil, List.length_take, List.length_drop]; omega)) only [hs, ↓aPre, aPost, oneW, allOne, retV, retVA, simprocAttr]
      omega
  · obtain rfl : k = L.length := by omega
    rw [List.drop_length, rowS, List.length_nil, Nat.add_zero] at hm
    subst hm
    simp -dsimp -implicitDefEqProofs (disch := first | omega | (simp only [List.length_append, List.length_cons, List.length_nil, List.length_take, List.length_drop]; omega)) only [hs, ↓aPre, aPost, oneW, allOne, retV, retVA, simprocAttr]
    refine end_of rfl ?_
    simp -dsimp -implicitDefEqProofs (disch := first | omega | (simp only [List.length_append, List.length_cons, List.length_nil, List.length_take, List.length_drop]; omega)) only [hs, ↓aPre, aPost, oneW, allOne, retV, retVA, simprocAttr]
end Go.Proofs.YtihgplkfikpgbaaDoor

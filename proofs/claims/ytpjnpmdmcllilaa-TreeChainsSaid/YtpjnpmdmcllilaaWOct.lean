/- Numbers in bytes, windows, sums: octets' functions. No condition but what each says. -/
import Derived.Test.YtpjnpmdmcllilaaWF
import Derived.Laws.Externs
set_option linter.unusedSimpArgs false
set_option linter.unusedVariables false
set_option maxRecDepth 8000
set_option maxHeartbeats 4000000
namespace Go.Proofs.Ytpjnpmdmcllilaa
open Go.Eng Go.RowKit
theorem run_a64 (x y : Int) (hx : 0 ≤ x) (hy : 0 ≤ y) (w : World) :
    (callFunc 40 #[.int .u64 x, .int .u64 y, .int .u64 0]).run Try.prog w = .ok (.value (.tuple #[.int .u64 ((x + y) % 18446744073709551616), .int .u64 ((x + y) / 18446744073709551616)])) w := by
  rw [run_callFunc_extern Try.func40 (by kernel_rfl) (by kernel_rfl) (by kernel_rfl) (e := add64Entry) (by kernel_rfl), run_add64 x y 0 hx hy (by decide) (by decide)]
  simp only [Result.andThen, Int.add_zero]
theorem a64_giv (x y : Int) (hx : 0 ≤ x) (hy : 0 ≤ y) : Giv Try.prog 40 [.c (.int .u64 x), .c (.int .u64 y), .c (.int .u64 0)] (retV [.c (.int .u64 ((x + y) % 18446744073709551616)), .c (.int .u64 ((x + y) / 18446744073709551616))]) := by
  refine .inr fun Z w vs hv => ?_
  have hvs : vs = [.int .u64 x, .int .u64 y, .int .u64 0] := by
    unfold DRt at hv
    obtain ⟨v1, r1, rfl, h1, hv⟩ := hv
    unfold DRt at hv
    obtain ⟨v2, r2, rfl, h2, hv⟩ := hv
    unfold DRt at hv
    obtain ⟨v3, r3, rfl, h3, hv⟩ := hv
    unfold DRt at hv
    subst hv
    unfold DR at h1 h2 h3
    rw [h1.1, h2.1, h3.1]
  subst hvs
  refine ⟨_, run_a64 x y hx hy w, fun M => ?_⟩
  show AR Z M w (.tup [.d _, .d _]) _
  unfold AR
  refine ⟨[_, _], rfl, ?_⟩
  unfold ARt
  refine ⟨_, _, rfl, by unfold AR DR; exact ⟨rfl, rfl⟩, ?_⟩
  unfold ARt
  refine ⟨_, _, rfl, by unfold AR DR; exact ⟨rfl, rfl⟩, ?_⟩
  unfold ARt
  rfl
theorem add_t (a b : Int) (ha : 0 ≤ a) (hb : 0 ≤ b) (h : a + b < 18446744073709551616) : Giv Try.prog 35 [.c (.int .u64 a), .c (.int .u64 b)] (retV [.c (.int .u64 (a + b)), .c (.int .i64 0)]) := by
  refine Giv.of mixed c35 (Nat.le_of_ble_eq_true rfl) ?_
  have e1 : (a + b) % 18446744073709551616 = a + b := by omega
  have e2 : (a + b) / 18446744073709551616 = 0 := by omega
  simp -dsimp -implicitDefEqProofs (disch := first | omega | (simp only [List.length_append, List.length_cons, List.length_nil, List.length_take, List.length_drop]; omega)) only [a35, ↓aPre, aPost, oneW, allOne, retV, retVA, simprocAttr]
  refine call_giv (a64_giv a b ha hb) ?_
  simp -dsimp -implicitDefEqProofs (disch := first | omega | (simp only [List.length_append, List.length_cons, List.length_nil, List.length_take, List.length_drop]; omega)) only [e1, e2, ↓aPre, aPost, oneW, allOne, retV, retVA, simprocAttr]
  exact post_eq rfl
def sizedP (n : Int) : Prop := n = 1 ∨ n = 2 ∨ n = 4 ∨ n = 8
theorem sized_t {n : Int} (h : sizedP n) : Giv Try.prog 34 [.c (.int .i64 n)] (retV [.c (.bool true)]) := by
  refine Giv.of mixed c34 (Nat.le_of_ble_eq_true rfl) ?_
  rcases h with rfl | rfl | rfl | rfl
  all_goals
    simp -dsimp -implicitDefEqProofs (disch := first | omega | (simp only [List.length_append, List.length_cons, List.length_nil, List.length_take, List.length_drop]; omega)) only [a34, ↓aPre, aPost, oneW, allOne, retV, retVA, simprocAttr]
    exact post_eq rfl
theorem win_t (b : List Int) (at_ n : Nat) (hl : b.length ≤ 1000000) (h : at_ + n ≤ b.length) : Giv Try.prog 27 [.lst 1 (li .u8 b), .c (.int .u64 at_), .c (.int .u64 n)] (retV [.lst 1 (li .u8 ((b.drop at_).take n)), .c (.int .i64 0)]) := by
  refine Giv.of mixed c27 (Nat.le_of_ble_eq_true rfl) ?_
  have e1 : ((at_ : Int) + n).toNat - at_ = n := by omega
  simp -dsimp -implicitDefEqProofs (disch := first | omega | (simp only [List.length_append, List.length_cons, List.length_nil, List.length_take, List.length_drop]; omega)) only [a27, ↓aPre, aPost, oneW, allOne, retV, retVA, simprocAttr]
  refine call_giv (add_t at_ n (by omega) (by omega) (by omega)) ?_
  simp -dsimp -implicitDefEqProofs (disch := first | omega | (simp only [List.length_append, List.length_cons, List.length_nil, List.length_take, List.length_drop]; omega)) only [e1, ↓aPre, aPost, oneW, allOne, retV, retVA, simprocAttr]
  exact post_eq rfl
def gF (w : List Int) (big : Bool) (k : Nat) : Int := if big = true then w.getD k 0 else w.getD (w.length - 1 - k) 0
def gvK (w : List Int) (big : Bool) : Nat → Int
  | 0 => 0
  | k + 1 => gvK w big k * 256 + gF w big k
theorem gF_b {w : List Int} (hb : Bytes w) (big : Bool) (k : Nat) : 0 ≤ gF w big k ∧ gF w big k < 256 := by
  unfold gF
  split
  · exact hb.get _
  · exact hb.get _
theorem gvK_b {w : List Int} (hb : Bytes w) (big : Bool) : ∀ k, 0 ≤ gvK w big k ∧ gvK w big k < 256 ^ k
  | 0 => by simp [gvK]
  | k + 1 => by
    have := gvK_b hb big k
    have := gF_b hb big k
    rw [gvK, Int.pow_succ]; omega
theorem or_256 (x y : Int) (hx : 0 ≤ x ∧ x < 72057594037927936) (hy : 0 ≤ y ∧ y < 256) : bits .or .u64 (x * 256) y = x * 256 + y := by
  obtain ⟨a, rfl⟩ := Int.eq_ofNat_of_zero_le hx.1
  obtain ⟨b, rfl⟩ := Int.eq_ofNat_of_zero_le hy.1
  rw [u64_or _ _ (by omega) (by omega) (by omega) (by omega)]
  have h := Nat.shiftLeft_add_eq_or_of_lt (show b < 2 ^ 8 by omega) a
  rw [show ((a : Int) * 256).toNat = a <<< 8 by rw [Nat.shiftLeft_eq]; omega, Int.toNat_natCast, ← h, Nat.shiftLeft_eq]
  omega
theorem get_t (b : List Int) (at_ : Nat) (n : Int) (big : Bool) (hn : sizedP n) (hl : b.length ≤ 1000000) (hB : Bytes b) (h : at_ + n.toNat ≤ b.length) : Giv Try.prog 26 [.lst 1 (li .u8 b), .c (.int .u64 at_), .c (.int .i64 n), .c (.bool big)] (retV [.c (.int .u64 (gvK ((b.drop at_).take n.toNat) big n.toNat)), .c (.int .i64 0)]) := by
  refine Giv.of mixed c26 (Nat.le_of_ble_eq_true rfl) ?_
  obtain ⟨m, rfl⟩ : ∃ m : Nat, n = m := ⟨n.toNat, by unfold sizedP at hn; omega⟩
  have hm8 : 1 ≤ m ∧ m ≤ 8 := by unfold sizedP at hn; omega
  rw [Int.toNat_natCast] at h ⊢
  obtain ⟨w, hw⟩ : ∃ w, w = (b.drop at_).take m := ⟨_, rfl⟩
  have hwl : w.length = m := by rw [hw, List.length_take, List.length_drop]; omega
  have hwB : Bytes w := by rw [hw]; exact (hB.drop _).take _
  rw [← hw]
  have hwin := win_t b at_ m hl h
  rw [← hw] at hwin
  simp -dsimp -implicitDefEqProofs (disch := first | omega | (simp only [List.length_append, List.length_cons, List.length_nil, List.length_take, List.length_drop]; omega)) only [a26, ↓aPre, aPost, oneW, allOne, retV, retVA, simprocAttr]
  refine call_giv (sized_t hn) ?_
  simp -dsimp -implicitDefEqProofs (disch := first | omega | (simp only [List.length_append, List.length_cons, List.length_nil, List.length_take, List.length_drop]; omega)) only [↓aPre, aPost, oneW, allOne, retV, retVA, simprocAttr]
  refine call_giv hwin ?_
  simp -dsimp -implicitDefEqProofs (disch := first | omega | (simp only [List.length_append, List.length_cons, List.length_nil, List.length_take, List.length_drop]; omega)) only [hwl, ↓aPre, aPost, oneW, allOne, retV, retVA, simprocAttr]
  refine loop_of (fun s => ∃ (k : Nat), k ≤ m ∧ s.tm 31 = .d (.c (.int .i64 k)) ∧ s.tm 30 = .d (.c (.int .i64 m)) ∧ s.tm 10 = .d (.lst 1 (li .u8 w)) ∧ s.tm 3 = .d (.c (.bool big)) ∧ s.tm 12 = .d (.c (.int .u64 (gvK w big k)))) (fun s => m - (avN (s.tm 31)).toNat) ?_ ?_
  · refine ⟨0, Nat.zero_le _, ?_⟩
    simp -dsimp -implicitDefEqProofs (disch := first | omega | (simp only [List.length_append, List.length_cons, List.length_nil, List.length_take, List.length_drop]; omega)) only [hwl, gvK, Int.natCast_zero, ↓aPre, aPost, oneW, allOne, retV, retVA, simprocAttr]
  rintro s ⟨k, hk, hs⟩
  by_cases hlt : k < m
  · have hg := gvK_b hwB big k
    have hf := gF_b hwB big k
    have hp : (256 : Int) ^ k ≤ 72057594037927936 := by
      have h1 : 256 ^ k ≤ 256 ^ 7 := Nat.pow_le_pow_right (by decide) (show k ≤ 7 by omega)
      have h2 : ((256 ^ k : Nat) : Int) ≤ ((256 ^ 7 : Nat) : Int) := Int.ofNat_le.2 h1
      simpa using h2
    have hor := or_256 (gvK w big k) (gF w big k) (by omega) hf
    have hsh : IntKind.u64.wrap (gvK w big k * 2 ^ min 8 IntKind.u64.bits) = gvK w big k * 256 := by
      rw [show min 8 IntKind.u64.bits = 8 from rfl, show (2 : Int) ^ 8 = 256 from rfl]
      exact wrap_inu64 (by omega)
    have e1 : ((m : Int) - 1 - k).toNat = m - 1 - k := by omega
    have hz1 := hwB.get (m - 1 - k)
    have hz2 := hwB.get k
    cases big with
    | true =>
      have hgf : w.getD k 0 = gF w true k := by rw [gF, if_pos rfl]
      simp -dsimp -implicitDefEqProofs (disch := first | omega | (simp only [List.length_append, List.length_cons, List.length_nil, List.length_take, List.length_drop]; omega)) only [hs, hwl, e1, hgf, hsh, hor, ↓aPre, aPost, oneW, allOne, retV, retVA, simprocAttr]
      refine round_of ⟨k + 1, by omega, ?_⟩ ?_
      · simp -dsimp -implicitDefEqProofs (disch := first | omega | (simp only [List.length_append, List.length_cons, List.length_nil, List.length_take, List.length_drop]; omega)) only [hs, hwl, e1, hgf, hsh, hor, gvK, ↓aPre, aPost, oneW, allOne, retV, retVA, simprocAttr]
      · simp -dsimp -implicitDefEqProofs (disch := first | omega | (simp only [List.length_append, List.length_cons, List.length_nil, List.length_take, List.length_drop]; omega)) only [hs, ↓aPre, aPost, oneW, allOne, retV, retVA, simprocAttr]
        omega
    | false =>
      have hgf : w.getD (m - 1 - k) 0 = gF w false k := by rw [gF, if_neg (by decide), hwl]
      simp -dsimp -implicitDefEqProofs (disch := first | omega | (simp only [List.length_append, List.length_cons, List.length_nil, List.length_take, List.length_drop]; omega)) only [hs, hwl, e1, hgf, hsh, hor, ↓aPre, aPost, oneW, allOne, retV, retVA, simprocAttr]
      refine round_of ⟨k + 1, by omega, ?_⟩ ?_
      · simp -dsimp -implicitDefEqProofs (disch := first | omega | (simp only [List.length_append, List.length_cons, List.length_nil, List.length_take, List.length_drop]; omega)) only [hs, hwl, e1, hgf, hsh, hor, gvK, ↓aPre, aPost, oneW, allOne, retV, retVA, simprocAttr]
      · simp -dsimp -implicitDefEqProofs (disch := first | omega | (simp only [List.length_append, List.length_cons, List.length_nil, List.length_take, List.length_drop]; omega)) only [hs, ↓aPre, aPost, oneW, allOne, retV, retVA, simprocAttr]
        omega
  · obtain rfl : k = m := by omega
    simp -dsimp -implicitDefEqProofs (disch := first | omega | (simp only [List.length_append, List.length_cons, List.length_nil, List.length_take, List.length_drop]; omega)) only [hs, ↓aPre, aPost, oneW, allOne, retV, retVA, simprocAttr]
    exact post_eq rfl
def turnK (w : List Int) : Nat → List Int
  | 0 => []
  | k + 1 => w.getD k 0 :: turnK w k
theorem turnK_len (w : List Int) : ∀ k, (turnK w k).length = k
  | 0 => rfl
  | k + 1 => by rw [turnK, List.length_cons, turnK_len w k]
theorem turnK_get (w : List Int) : ∀ k i, i < k → (turnK w k).getD i 0 = w.getD (k - 1 - i) 0
  | 0, i, h => by omega
  | k + 1, 0, h => by rw [turnK, List.getD_cons_zero]; congr 1
  | k + 1, i + 1, h => by
    rw [turnK, List.getD_cons_succ, turnK_get w k i (by omega)]
    congr 1; omega
theorem turnK_bytes {w : List Int} (h : Bytes w) : ∀ k, Bytes (turnK w k)
  | 0 => Bytes.nil
  | k + 1 => fun z hz => by
    rw [turnK] at hz
    rcases List.mem_cons.1 hz with rfl | hz
    · exact h.get k
    · exact turnK_bytes h k z hz
theorem one_take {w : List Int} {k : Nat} (h : k < w.length) : (w.drop k).take 1 = [w.getD k 0] := by rw [drop_at h]; rfl
theorem turn_giv (w : List Int) (hl : w.length ≤ 1000) : Giv Try.prog 31 [.c (.string (strOfNums w))] (retV [.c (.string (strOfNums (turnK w w.length)))]) := by
  refine Giv.of mixed c31 (Nat.le_of_ble_eq_true rfl) ?_
  simp -dsimp -implicitDefEqProofs (disch := first | omega | (simp only [List.length_append, List.length_cons, List.length_nil, List.length_take, List.length_drop]; omega)) only [a31, ↓aPre, aPost, oneW, allOne, retV, retVA, simprocAttr]
  refine loop_of (fun s => ∃ (k : Nat), k ≤ w.length ∧ s.tm 4 = .d (.c (.int .i64 k)) ∧ s.tm 0 = .d (.c (.string (strOfNums w))) ∧ s.tm 3 = .d (.c (.string (strOfNums (turnK w k))))) (fun s => w.length - (avN (s.tm 4)).toNat) ?_ ?_
  · refine ⟨0, Nat.zero_le _, ?_⟩
    simp -dsimp -implicitDefEqProofs (disch := first | omega | (simp only [List.length_append, List.length_cons, List.length_nil, List.length_take, List.length_drop]; omega)) only [turnK, Int.natCast_zero, ↓aPre, aPost, oneW, allOne, retV, retVA, simprocAttr]
  rintro s ⟨k, hk, hs⟩
  have el := turnK_len w k
  by_cases hlt : k < w.length
  · have e1 : ((k : Int) + 1).toNat - k = 1 := by omega
    have e2 := one_take hlt
    simp -dsimp -implicitDefEqProofs (disch := first | omega | (simp only [List.length_append, List.length_cons, List.length_nil, List.length_take, List.length_drop]; omega)) only [hs, e1, e2, el, ↓aPre, aPost, oneW, allOne, retV, retVA, simprocAttr]
    refine round_of ⟨k + 1, by omega, ?_⟩ ?_
    · simp -dsimp -implicitDefEqProofs (disch := first | omega | (simp only [List.length_append, List.length_cons, List.length_nil, List.length_take, List.length_drop]; omega)) only [hs, e1, e2, el, turnK, ↓aPre, aPost, oneW, allOne, retV, retVA, simprocAttr]
    · simp -dsimp -implicitDefEqProofs (disch := first | omega | (simp only [List.length_append, List.length_cons, List.length_nil, List.length_take, List.length_drop]; omega)) only [hs, ↓aPre, aPost, oneW, allOne, retV, retVA, simprocAttr]
      omega
  · simp -dsimp -implicitDefEqProofs (disch := first | omega | (simp only [List.length_append, List.length_cons, List.length_nil, List.length_take, List.length_drop]; omega)) only [hs, ↓aPre, aPost, oneW, allOne, retV, retVA, simprocAttr]
    obtain rfl : k = w.length := by omega
    exact post_eq rfl
theorem gv_turn (w : List Int) : ∀ k, k ≤ w.length → gvK (turnK w w.length) true k = gvK w false k
  | 0, _ => rfl
  | k + 1, h => by
    rw [gvK, gvK, gv_turn w k (by omega), gF, if_pos rfl, gF, if_neg (by decide), turnK_get _ _ _ (by omega)]
def lbF (v : Nat) (j : Nat) : Int := ((v / 256 ^ j % 256 : Nat) : Int)
def lb (v n : Nat) : List Int := tab (lbF v) n
def putL (v n : Nat) (big : Bool) : List Int := if big = true then turnK (lb v n) n else lb v n
theorem lb_len (v n : Nat) : (lb v n).length = n := tab_len ..
theorem lb_get (v : Nat) {n j : Nat} (h : j < n) : (lb v n).getD j 0 = lbF v j := tab_get _ h
theorem lbF_b (v j : Nat) : 0 ≤ lbF v j ∧ lbF v j < 256 := by
  have := Nat.mod_lt (v / 256 ^ j) (show 256 > 0 by decide)
  unfold lbF
  omega
theorem lb_bytes (v n : Nat) : Bytes (lb v n) := tab_bytes fun i _ => lbF_b v i
theorem putL_len (v n : Nat) (big : Bool) : (putL v n big).length = n := by
  unfold putL
  split
  · exact turnK_len ..
  · exact lb_len ..
theorem putL_bytes (v n : Nat) (big : Bool) : Bytes (putL v n big) := by
  unfold putL
  split
  · exact turnK_bytes (lb_bytes v n) _
  · exact lb_bytes v n
theorem fdiv_pow (v k : Nat) (hk : k ≤ 8) : (v : Int).fdiv (2 ^ min (8 * (k : Int)).toNat IntKind.u64.bits) = ((v / 256 ^ k : Nat) : Int) := by
  rw [show min (8 * (k : Int)).toNat IntKind.u64.bits = 8 * k by simp [IntKind.bits]; omega, Int.fdiv_eq_ediv_of_nonneg _ (Int.pow_nonneg (by omega)), Nat.pow_mul' 2 8 k |> fun _ => (show (2 : Int) ^ (8 * k) = ((256 ^ k : Nat) : Int) by rw [Int.pow_mul]; simp), Int.natCast_ediv]
theorem wrap8 (x : Nat) : IntKind.u8.wrap (x : Int) = ((x % 256 : Nat) : Int) := by
  simp [IntKind.wrap, IntKind.signed, IntKind.bits]
def csF (g : Nat → Int) (k : Nat) (j : Nat) : Int := if j < k then g j else 0
def crF (g : Nat → Int) (n k : Nat) (j : Nat) : Int := if n ≤ j + k then g (n - 1 - j) else 0
theorem cs_set (g : Nat → Int) {k n : Nat} (h : k < n) : (tab (csF g k) n).set k (g k) = tab (csF g (k + 1)) n := by
  rw [tab_set _ h]
  refine tab_congr _ fun j hj => ?_
  unfold csF
  by_cases c : j = k
  · subst c; rw [if_pos rfl, if_pos (by omega)]
  · rw [if_neg c]
    by_cases c2 : j < k
    · rw [if_pos c2, if_pos (by omega)]
    · rw [if_neg c2, if_neg (by omega)]
theorem cr_set (g : Nat → Int) {k n : Nat} (h : k < n) : (tab (crF g n k) n).set (n - 1 - k) (g k) = tab (crF g n (k + 1)) n := by
  rw [tab_set _ (by omega)]
  refine tab_congr _ fun j hj => ?_
  unfold crF
  by_cases c : j = n - 1 - k
  · subst c
    rw [if_pos rfl, if_pos (by omega), show n - 1 - (n - 1 - k) = k by omega]
  · rw [if_neg c]
    by_cases c2 : n ≤ j + k
    · rw [if_pos c2, if_pos (by omega)]
    · rw [if_neg c2, if_neg (by omega)]
theorem cs_0 (g : Nat → Int) (n : Nat) : List.replicate n (0 : Int) = tab (csF g 0) n := by
  rw [rep_tab]; exact tab_congr _ fun j _ => by rw [csF, if_neg (by omega)]
theorem cr_0 (g : Nat → Int) (n : Nat) : List.replicate n (0 : Int) = tab (crF g n 0) n := by
  rw [rep_tab]; exact tab_congr _ fun j h => by rw [crF, if_neg (by omega)]
theorem cs_n (v n : Nat) : tab (csF (lbF v) n) n = putL v n false := by
  rw [putL, if_neg (by decide)]; exact tab_congr _ fun j h => by rw [csF, if_pos h]
theorem cr_n (v n : Nat) : tab (crF (lbF v) n n) n = putL v n true := by
  rw [putL, if_pos rfl]
  exact (list_tab (turnK_len ..) fun j h => by rw [turnK_get _ _ _ h, lb_get v (by omega), crF, if_pos (by omega)]).symm
theorem rsized_t {n : Int} (h : sizedP n) : Giv Try.prog 29 [.c (.int .i64 n)] (retV [.c (.bool true)]) := by
  refine Giv.of mixed c29 (Nat.le_of_ble_eq_true rfl) ?_
  rcases h with rfl | rfl | rfl | rfl
  all_goals
    simp -dsimp -implicitDefEqProofs (disch := first | omega | (simp only [List.length_append, List.length_cons, List.length_nil, List.length_take, List.length_drop]; omega)) only [a29, ↓aPre, aPost, oneW, allOne, retV, retVA, simprocAttr]
    exact post_eq rfl
theorem turn_turn (w : List Int) : turnK (turnK w w.length) w.length = w :=
  ext_getD (by rw [turnK_len]) fun j hj => by
    rw [turnK_len] at hj
    rw [turnK_get _ _ _ hj, turnK_get _ _ _ (by omega)]
    congr 1; omega
theorem div_div (v k : Nat) : v / 256 ^ k / 256 = v / 256 ^ (k + 1) := by rw [Nat.div_div_eq_div_mul, Nat.pow_succ]
theorem gv_put (v n : Nat) (big : Bool) : ∀ k, k ≤ n → gvK (putL v n big) big k = ((v / 256 ^ (n - k) % 256 ^ k : Nat) : Int)
  | 0, _ => by rw [Nat.pow_zero, Nat.mod_one]; rfl
  | k + 1, h => by
    have hgf : gF (putL v n big) big k = lbF v (n - 1 - k) := by
      unfold gF
      rw [putL_len]
      cases big with
      | true => rw [if_pos rfl, putL, if_pos rfl, turnK_get _ _ _ (by omega), lb_get v (by omega)]
      | false => rw [if_neg (by decide), putL, if_neg (by decide), lb_get v (by omega)]
    rw [gvK, gv_put v n big k (by omega), hgf, lbF]
    obtain ⟨X, hX⟩ : ∃ X, X = v / 256 ^ (n - (k + 1)) := ⟨_, rfl⟩
    rw [show n - 1 - k = n - (k + 1) by omega, ← hX, show v / 256 ^ (n - k) = X / 256 by rw [hX, div_div, show n - (k + 1) + 1 = n - k by omega], Nat.pow_succ, Nat.mul_comm (256 ^ k) 256, Nat.mod_mul]
    omega
theorem gv_put_all {v n : Nat} (big : Bool) (h : v < 256 ^ n) : gvK (putL v n big) big n = v := by
  rw [gv_put v n big n (Nat.le_refl _), Nat.sub_self, Nat.pow_zero, Nat.div_one, Nat.mod_eq_of_lt h]
end Go.Proofs.Ytpjnpmdmcllilaa

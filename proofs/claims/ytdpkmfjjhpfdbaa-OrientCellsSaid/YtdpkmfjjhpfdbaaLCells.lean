/- OrientCells: the law's function gives true of all data. No condition but that whole numbers are of their kinds. -/
import Derived.Test.YtdpkmfjjhpfdbaaLBack
import Derived.Test.YtdpkmfjjhpfdbaaWSort
set_option linter.unusedSimpArgs false
set_option linter.unusedVariables false
set_option maxRecDepth 8000
set_option maxHeartbeats 4000000
namespace Go.Proofs.Ytdpkmfjjhpfdbaa
open Go.Eng Go.RowKit
def a6 : AFn := ⟨145, (.seq (.ops [⟨(.some 6), (.mov (.const (.bool false))), .none⟩]) (.seq (.seq (.ops [⟨(.some 18), (.call 18 8 []), .none⟩, ⟨(.some 19), (.un .not (.tmp 18)), .none⟩]) (.cond (.tmp 19) (.seq (.ops [⟨(.some 6), (.mov (.const (.bool false))), .none⟩]) .ret) .skip)) (.seq (.ops [⟨(.some 21), (.mov (.tmp 0)), .none⟩, ⟨(.some 22), (.cvI .u64 (.tmp 21)), .none⟩, ⟨(.some 23), (.bin .rem (.tmp 22) (.const (.int .u64 12))), .none⟩, ⟨(.some 24), (.cvI .i64 (.tmp 23)), .none⟩, ⟨(.some 25), (.bin .add (.const (.int .i64 1)) (.tmp 24)), .none⟩, ⟨(.some 26), (.mov (.tmp 1)), .none⟩, ⟨(.some 27), (.cvI .u64 (.tmp 26)), .none⟩, ⟨(.some 28), (.bin .rem (.tmp 27) (.const (.int .u64 12))), .none⟩, ⟨(.some 29), (.cvI .i64 (.tmp 28)), .none⟩, ⟨(.some 30), (.bin .add (.const (.int .i64 1)) (.tmp 29)), .none⟩, ⟨(.some 31), (.call 31 15 [(.tmp 25), (.tmp 30)]), .none⟩, ⟨(.some 20), (.mov (.tmp 31)), .none⟩, ⟨(.some 32), (.ext (.tmp 20) 0), .none⟩, ⟨(.some 33), (.ext (.tmp 20) 1), .none⟩, ⟨(.some 7), (.alloc 7 [(.int .i64 0), (.int .i64 0), (.slice .none 0 0)]), .none⟩, ⟨.none, (.st 3 (.tmp 7) (.tmp 32)), .none⟩, ⟨(.some 8), (.mov (.tmp 33)), .none⟩]) (.seq (.seq (.ops [⟨(.some 34), (.fadr 2 (.tmp 7)), .none⟩, ⟨(.some 35), (.ld (.tmp 34)), .none⟩, ⟨(.some 36), (.len (.tmp 35)), .none⟩, ⟨(.some 37), (.mov (.const (.int .i64 0))), .none⟩]) (.block 0 (.loop (.seq (.ops [⟨(.some 38), (.bin .lss (.tmp 37) (.tmp 36)), .none⟩]) (.seq (.cond (.tmp 38) .skip (.exit 0)) (.seq (.block 1 (.seq (.ops [⟨(.some 39), (.mov (.tmp 37)), .none⟩, ⟨(.some 9), (.mov (.tmp 39)), .none⟩]) (.ops [⟨(.some 40), (.fadr 2 (.tmp 7)), .none⟩, ⟨(.some 41), (.ld (.tmp 40)), .none⟩, ⟨(.some 42), (.mov (.tmp 9)), .none⟩, ⟨(.some 43), (.mov (.tmp 9)), .none⟩, ⟨(.some 44), (.iadr 1 (.tmp 41) (.tmp 42)), .none⟩, ⟨.none, (.st 1 (.tmp 44) (.tmp 43)), .none⟩]))) (.ops [⟨(.some 45), (.bin .add (.tmp 37) (.const (.int .i64 1))), .none⟩, ⟨(.some 37), (.mov (.tmp 45)), .none⟩]))))))) (.seq (.ops [⟨(.some 46), (.mov (.tmp 2)), .none⟩, ⟨(.some 47), (.cvI .u64 (.tmp 46)), .none⟩, ⟨(.some 48), (.bin .rem (.tmp 47) (.const (.int .u64 8))), .none⟩, ⟨(.some 49), (.cvI .i64 (.tmp 48)), .none⟩, ⟨(.some 50), (.bin .add (.const (.int .i64 1)) (.tmp 49)), .none⟩, ⟨(.some 10), (.mov (.tmp 50)), .none⟩]) (.seq (.ops [⟨(.some 52), (.ldn 3 (.tmp 7)), .none⟩, ⟨(.some 53), (.mov (.tmp 10)), .none⟩, ⟨(.some 54), (.call 54 9 [(.tmp 52), (.tmp 53)]), .none⟩, ⟨(.some 51), (.mov (.tmp 54)), .none⟩, ⟨(.some 55), (.ext (.tmp 51) 0), .none⟩, ⟨(.some 56), (.ext (.tmp 51) 1), .none⟩, ⟨(.some 11), (.alloc 11 [(.int .i64 0), (.int .i64 0), (.slice .none 0 0)]), .none⟩, ⟨.none, (.st 3 (.tmp 11) (.tmp 55)), .none⟩, ⟨(.some 12), (.mov (.tmp 56)), .none⟩]) (.seq (.seq (.ops [⟨(.some 57), (.mov (.tmp 8)), .none⟩, ⟨(.some 58), (.bin .neq (.tmp 57) (.const (.int .i64 0))), .none⟩, ⟨(.some 59), (.mov (.tmp 58)), .none⟩, ⟨(.some 60), (.mov (.tmp 12)), (.some (59, false))⟩, ⟨(.some 61), (.bin .neq (.tmp 60) (.const (.int .i64 0))), (.some (59, false))⟩, ⟨(.some 62), (.pick (.tmp 59) (.const (.bool true)) (.tmp 61)), .none⟩, ⟨(.some 63), (.mov (.tmp 62)), .none⟩, ⟨(.some 64), (.mov (.tmp 10)), (.some (63, false))⟩, ⟨(.some 65), (.bin .lss (.tmp 64) (.const (.int .i64 5))), (.some (63, false))⟩, ⟨(.some 66), (.mov (.tmp 65)), (.some (63, false))⟩, ⟨(.some 67), (.fadr 0 (.tmp 11)), (.some (66, true))⟩, ⟨(.some 68), (.ld (.tmp 67)), (.some (66, true))⟩, ⟨(.some 69), (.fadr 0 (.tmp 7)), (.some (66, true))⟩, ⟨(.some 70), (.ld (.tmp 69)), (.some (66, true))⟩, ⟨(.some 71), (.bin .neq (.tmp 68) (.tmp 70)), (.some (66, true))⟩, ⟨(.some 72), (.mov (.tmp 71)), (.some (66, true))⟩, ⟨(.some 73), (.fadr 1 (.tmp 11)), (.some (72, false))⟩, ⟨(.some 74), (.ld (.tmp 73)), (.some (72, false))⟩, ⟨(.some 75), (.fadr 1 (.tmp 7)), (.some (72, false))⟩, ⟨(.some 76), (.ld (.tmp 75)), (.some (72, false))⟩, ⟨(.some 77), (.bin .neq (.tmp 74) (.tmp 76)), (.some (72, false))⟩, ⟨(.some 78), (.pick (.tmp 72) (.const (.bool true)) (.tmp 77)), (.some (66, true))⟩, ⟨(.some 79), (.pick (.tmp 66) (.tmp 78) (.const (.bool false))), (.some (63, false))⟩, ⟨(.some 80), (.pick (.tmp 63) (.const (.bool true)) (.tmp 79)), .none⟩, ⟨(.some 81), (.mov (.tmp 80)), .none⟩, ⟨(.some 82), (.mov (.tmp 10)), (.some (81, false))⟩, ⟨(.some 83), (.bin .gtr (.tmp 82) (.const (.int .i64 4))), (.some (81, false))⟩, ⟨(.some 84), (.mov (.tmp 83)), (.some (81, false))⟩, ⟨(.some 85), (.fadr 0 (.tmp 11)), (.some (84, true))⟩, ⟨(.some 86), (.ld (.tmp 85)), (.some (84, true))⟩, ⟨(.some 87), (.fadr 1 (.tmp 7)), (.some (84, true))⟩, ⟨(.some 88), (.ld (.tmp 87)), (.some (84, true))⟩, ⟨(.some 89), (.bin .neq (.tmp 86) (.tmp 88)), (.some (84, true))⟩, ⟨(.some 90), (.mov (.tmp 89)), (.some (84, true))⟩, ⟨(.some 91), (.fadr 1 (.tmp 11)), (.some (90, false))⟩, ⟨(.some 92), (.ld (.tmp 91)), (.some (90, false))⟩, ⟨(.some 93), (.fadr 0 (.tmp 7)), (.some (90, false))⟩, ⟨(.some 94), (.ld (.tmp 93)), (.some (90, false))⟩, ⟨(.some 95), (.bin .neq (.tmp 92) (.tmp 94)), (.some (90, false))⟩, ⟨(.some 96), (.pick (.tmp 90) (.const (.bool true)) (.tmp 95)), (.some (84, true))⟩, ⟨(.some 97), (.pick (.tmp 84) (.tmp 96) (.const (.bool false))), (.some (81, false))⟩, ⟨(.some 98), (.pick (.tmp 81) (.const (.bool true)) (.tmp 97)), .none⟩]) (.cond (.tmp 98) (.seq (.ops [⟨(.some 6), (.mov (.const (.bool false))), .none⟩]) .ret) .skip)) (.seq (.ops [⟨(.some 99), (.fadr 2 (.tmp 7)), .none⟩, ⟨(.some 100), (.ld (.tmp 99)), .none⟩, ⟨(.some 101), (.len (.tmp 100)), .none⟩, ⟨(.some 13), (.mov (.tmp 101)), .none⟩]) (.seq (.ops [⟨(.some 102), (.fadr 0 (.tmp 7)), .none⟩, ⟨(.some 103), (.ld (.tmp 102)), .none⟩, ⟨(.some 104), (.bin .sub (.tmp 103) (.const (.int .i64 1))), .none⟩, ⟨(.some 105), (.mov (.tmp 13)), .none⟩, ⟨(.some 106), (.fadr 0 (.tmp 7)), .none⟩, ⟨(.some 107), (.ld (.tmp 106)), .none⟩, ⟨(.some 108), (.bin .sub (.tmp 105) (.tmp 107)), .none⟩, ⟨(.some 109), (.mov (.tmp 13)), .none⟩, ⟨(.some 110), (.bin .sub (.tmp 109) (.const (.int .i64 1))), .none⟩, ⟨(.some 111), (.lit 1 [(.const (.int .i64 0)), (.tmp 104), (.tmp 108), (.tmp 110)]), .none⟩, ⟨(.some 14), (.mov (.tmp 111)), .none⟩]) (.seq (.seq (.ops [⟨(.some 112), (.fadr 0 (.tmp 11)), .none⟩, ⟨(.some 113), (.ld (.tmp 112)), .none⟩, ⟨(.some 114), (.bin .sub (.tmp 113) (.const (.int .i64 1))), .none⟩, ⟨(.some 115), (.mov (.tmp 13)), .none⟩, ⟨(.some 116), (.fadr 0 (.tmp 11)), .none⟩, ⟨(.some 117), (.ld (.tmp 116)), .none⟩, ⟨(.some 118), (.bin .sub (.tmp 115) (.tmp 117)), .none⟩, ⟨(.some 119), (.mov (.tmp 13)), .none⟩, ⟨(.some 120), (.bin .sub (.tmp 119) (.const (.int .i64 1))), .none⟩, ⟨(.some 121), (.lit 1 [(.const (.int .i64 0)), (.tmp 114), (.tmp 118), (.tmp 120)]), .none⟩, ⟨(.some 122), (.len (.tmp 121)), .none⟩, ⟨(.some 123), (.mov (.const (.int .i64 0))), .none⟩]) (.block 2 (.loop (.seq (.ops [⟨(.some 124), (.bin .lss (.tmp 123) (.tmp 122)), .none⟩]) (.seq (.cond (.tmp 124) .skip (.exit 2)) (.seq (.block 3 (.seq (.ops [⟨(.some 125), (.iadr 1 (.tmp 121) (.tmp 123)), .none⟩, ⟨(.some 126), (.ld (.tmp 125)), .none⟩, ⟨(.some 16), (.mov (.tmp 126)), .none⟩]) (.seq (.ops [⟨(.some 127), (.mov (.tmp 14)), .none⟩, ⟨(.some 128), (.fadr 2 (.tmp 11)), .none⟩, ⟨(.some 129), (.ld (.tmp 128)), .none⟩, ⟨(.some 130), (.mov (.tmp 16)), .none⟩, ⟨(.some 131), (.iadr 1 (.tmp 129) (.tmp 130)), .none⟩, ⟨(.some 132), (.ld (.tmp 131)), .none⟩, ⟨(.some 133), (.call 133 16 [(.tmp 127), (.tmp 132)]), .none⟩, ⟨(.some 134), (.un .not (.tmp 133)), .none⟩]) (.cond (.tmp 134) (.seq (.ops [⟨(.some 6), (.mov (.const (.bool false))), .none⟩]) .ret) .skip)))) (.ops [⟨(.some 135), (.bin .add (.tmp 123) (.const (.int .i64 1))), .none⟩, ⟨(.some 123), (.mov (.tmp 135)), .none⟩]))))))) (.seq (.ops [⟨(.some 136), (.fadr 2 (.tmp 11)), .none⟩, ⟨(.some 137), (.ld (.tmp 136)), .none⟩, ⟨(.some 138), (.call 138 17 [(.tmp 137)]), .none⟩, ⟨(.some 17), (.mov (.tmp 138)), .none⟩]) (.seq (.ops [⟨(.some 139), (.mov (.tmp 17)), .none⟩, ⟨(.some 140), (.callm 18 [(.tmp 139)]), .none⟩]) (.seq (.ops [⟨(.some 141), (.mov (.tmp 17)), .none⟩, ⟨(.some 142), (.fadr 2 (.tmp 7)), .none⟩, ⟨(.some 143), (.ld (.tmp 142)), .none⟩, ⟨(.some 144), (.call 144 19 [(.tmp 141), (.tmp 143)]), .none⟩, ⟨(.some 6), (.mov (.tmp 144)), .none⟩]) .ret))))))))))))), [(6, .none)]⟩
theorem c6 : cmpF Try.prog [3000018] [] 6 = some a6 := by kernel_rfl
/-- a sorted list of n places that holds each of n numbers -/
theorem incr {n : Nat} (p : Nat → Nat) (h : ∀ i j, i < j → j < n → p i < p j) : ∀ i, i < n → i ≤ p i
  | 0, _ => Nat.zero_le _
  | i + 1, hi => by
    have := incr p h i (by omega)
    have := h i (i + 1) (by omega) hi
    omega
theorem incr_eq {n : Nat} (p : Nat → Nat) (h : ∀ i j, i < j → j < n → p i < p j) (hb : ∀ i, i < n → p i < n) : ∀ d i, i + d + 1 = n → p i = i
  | 0, i, hi => by
    have := incr p h i (by omega)
    have := hb i (by omega)
    omega
  | d + 1, i, hi => by
    have h1 := incr p h i (by omega)
    have h2 := incr_eq p h hb d (i + 1) (by omega)
    have h3 := h i (i + 1) (by omega) (by omega)
    omega
def iota (n : Nat) : List Int := tab (fun j => (j : Int)) n
theorem iota_len (n : Nat) : (iota n).length = n := tab_len ..
theorem getD_mem {l : List Int} {i : Nat} (h : i < l.length) : l.getD i 0 ∈ l := by
  rw [List.getD, List.getElem?_eq_getElem h, Option.getD_some]
  exact List.getElem_mem h
theorem mem_getD {l : List Int} {z : Int} (h : z ∈ l) : ∃ i, i < l.length ∧ l.getD i 0 = z := by
  obtain ⟨i, hi, e⟩ := List.mem_iff_getElem.1 h
  exact ⟨i, hi, by rw [List.getD, List.getElem?_eq_getElem hi, Option.getD_some, e]⟩
theorem sorted_iota {s : List Int} {n : Nat} (hl : s.length = n) (hs : s.Pairwise (· ≤ ·)) (hm : ∀ v : Nat, v < n → (v : Int) ∈ s) : s = iota n := by
  have hle : ∀ i j, i ≤ j → j < n → s.getD i 0 ≤ s.getD j 0 := fun i j hij hj => by
    by_cases e : i = j
    · rw [e]; exact Int.le_refl _
    · have := List.pairwise_iff_getElem.1 hs i j (by omega) (by omega) (by omega)
      rwa [List.getD, List.getD, List.getElem?_eq_getElem (by omega), List.getElem?_eq_getElem (by omega)]
  have hp : ∀ v : Nat, ∃ i, v < n → i < n ∧ s.getD i 0 = v := fun v => by
    by_cases hv : v < n
    · obtain ⟨i, hi, e⟩ := mem_getD (hm v hv)
      exact ⟨i, fun _ => ⟨by omega, e⟩⟩
    · exact ⟨0, fun k => absurd k hv⟩
  obtain ⟨p, hp⟩ := Classical.skolem.1 hp
  have hinc : ∀ i j, i < j → j < n → p i < p j := fun i j hij hj => by
    refine Decidable.byContradiction fun k => ?_
    have h1 := hp i (by omega)
    have h2 := hp j hj
    have := hle (p j) (p i) (by omega) h1.1
    rw [h1.2, h2.2] at this
    omega
  refine list_tab hl fun m hm' => ?_
  have e := incr_eq p hinc (fun i hi => (hp i hi).1) (n - 1 - m) m (by omega)
  have := (hp m hm').2
  rw [e] at this
  exact this
theorem srt_iota {u : List Int} {n : Nat} (hl : u.length = n) (hm : ∀ v : Nat, v < n → (v : Int) ∈ u) : srt u = iota n := by
  refine sorted_iota (by rw [srt_len, hl]) ?_ fun v hv => by unfold srt; rw [List.mem_mergeSort]; exact hm v hv
  have := List.pairwise_mergeSort (le := fun x y : Int => decide (x ≤ y)) (fun a b c h1 h2 => by simp at *; omega) (fun a b => by simp; omega) u
  exact this.imp fun h => by simpa using h
/-- what stands in a turned grid stands in the grid -/
theorem mem_up {k : Int} {W H : Nat} {l : List Int} (hk : wayP k) (hl : l.length = W * H) {z : Int} (h : z ∈ upL k W H l) : z ∈ l := by
  obtain ⟨m, hm, rfl⟩ := tab_mem h
  have hB : 0 < upW k W H := Nat.pos_of_ne_zero fun q => by rw [q, Nat.mul_zero] at hm; omega
  have hy : m / upW k W H < upH k W H := Nat.div_lt_of_lt_mul (by rw [Nat.mul_comm]; exact hm)
  have hx : m % upW k W H < upW k W H := Nat.mod_lt _ hB
  obtain ⟨a, b, ha, hb, hA, hC⟩ := tXY hk hx hy
  rw [grF, upG_at l ha hb]
  exact getD_mem (by rw [hl, Nat.mul_comm W H]; exact place_lt hA hC)
theorem up_all {k : Int} {W H : Nat} {l : List Int} (hk : wayP k) (hl : l.length = W * H) {z : Int} (h : z ∈ l) : z ∈ upL k W H l := by
  have hb := bak_thn hk
  have h1 := (up_up hk hb.1 W H l).1
  rw [hb.2, (up_one hl).2.2] at h1
  rw [← h1] at h
  exact mem_up hb.1 (by rw [upL_len]) h
/-- what stands in a corner of the turned grid -/
theorem corner {k : Int} {W H : Nat} (hk : wayP k) (hW : 0 < W) (hH : 0 < H) {y x : Nat} (hy : y = 0 ∨ y + 1 = upH k W H) (hx : x = 0 ∨ x + 1 = upW k W H) : (upL k W H (iota (W * H))).getD (y * upW k W H + x) 0 ∈ [0, (W : Int) - 1, (W : Int) * H - W, (W : Int) * H - 1] := by
  have hB : 0 < upW k W H := by unfold upW; split <;> omega
  have hA : 0 < upH k W H := by unfold upH; split <;> omega
  obtain ⟨a, b, ha, hb, hA', hC⟩ := tXY (W := W) (H := H) (x := x) (y := y) hk (by omega) (by omega)
  have hpl : b * W + a < W * H := by rw [Nat.mul_comm W H]; exact place_lt hA' hC
  rw [upL, grL_at _ (by omega) (by omega), upG_at _ ha hb, iota, tab_get _ hpl]
  have hab : (a = 0 ∨ a + 1 = W) ∧ (b = 0 ∨ b + 1 = H) := by
    unfold upH at hy; unfold upW at hx
    obtain rfl | rfl | rfl | rfl | rfl | rfl | rfl | rfl : k = 1 ∨ k = 2 ∨ k = 3 ∨ k = 4 ∨ k = 5 ∨ k = 6 ∨ k = 7 ∨ k = 8 := by unfold wayP at hk; omega
    all_goals
      simp only [tX, tY, Int.reduceEq, Int.reduceLE, if_true, if_false, false_or, or_false, or_true, true_or] at hx hy ha hb
      omega
  have hWH : (W : Int) * H = ((W * H : Nat) : Int) := (Int.natCast_mul W H).symm
  rw [hWH]
  obtain ⟨q, hq⟩ : ∃ q, q = W * H := ⟨_, rfl⟩
  rcases hab.2 with e | e
  · subst e
    rcases hab.1 with e | e
    · subst e; simp
    · simp; omega
  · have : W * H = b * W + W := by rw [← e, Nat.mul_comm, Nat.succ_mul]
    rw [this]
    rcases hab.1 with e | e
    · subst e
      first | (simp; done) | (simp; omega)
    · first | (simp; done) | (simp; omega)
theorem first_ex (P : Nat → Prop) : ∀ k, ∃ n, n ≤ k ∧ (∀ i, i < n → P i) ∧ (n = k ∨ ¬ P n)
  | 0 => ⟨0, Nat.le_refl _, fun i h => absurd h (Nat.not_lt_zero _), .inl rfl⟩
  | k + 1 => by
    obtain ⟨n, h1, h2, h3⟩ := first_ex P k
    by_cases c : P n
    · obtain rfl : n = k := h3.resolve_right (fun h => h c)
      refine ⟨n + 1, Nat.le_refl _, fun i hi => ?_, .inl rfl⟩
      by_cases e : i = n
      · rw [e]; exact c
      · exact h2 i (by omega)
    · exact ⟨n, by omega, h2, .inr c⟩
theorem has_t {l : List Int} {v : Int} (h : v ∈ l) (hl : l.length ≤ 100000) : Giv Try.prog 16 [.lst 1 (li .i64 l), .c (.int .i64 v)] (retV [.c (.bool true)]) := by
  obtain ⟨m, hm, hno, hend⟩ := first_ex (fun i => l.getD i 0 ≠ v) l.length
  have hml : m < l.length := Decidable.byContradiction fun c => by
    obtain rfl : m = l.length := by omega
    obtain ⟨i, hi, e⟩ := mem_getD h
    exact hno i hi e
  have hmv : l.getD m 0 = v := Decidable.byContradiction fun c => by
    rcases hend with q | q
    · omega
    · exact q c
  have h28 : Giv Try.prog 28 [.lst 1 (li .i64 l), .c (.int .i64 v)] (retV [.c (.int .i64 m)]) := by
    refine Giv.of mixed c28 (Nat.le_of_ble_eq_true rfl) ?_
    simp -dsimp -implicitDefEqProofs (disch := first | omega | (simp only [List.length_append, List.length_cons, List.length_nil, List.length_take, List.length_drop]; omega)) only [a28, ↓aPre, aPost, oneW, allOne, retV, retVA, ↓reduceIte, reduceCtorEq, Nat.reduceAdd, Nat.reduceSub, Nat.reduceMul, Nat.reduceLT, Nat.reduceLeDiff, Nat.reduceEqDiff, Nat.reduceDiv, Nat.reduceMod, Nat.reducePow, Int.reduceAdd, Int.reduceSub, Int.reduceMul, Int.reduceLT, Int.reduceLE, Int.reduceEq, Int.reduceNe, Int.reducePow, Int.reduceToNat, Int.reduceNeg]
    refine loop_of (fun s => ∃ (k : Nat), k ≤ m ∧ s.tm 0 = .d (.lst 1 (li .i64 l)) ∧ s.tm 1 = .d (.c (.int .i64 v)) ∧ s.tm 7 = .d (.c (.int .i64 l.length)) ∧ s.tm 8 = .d (.c (.int .i64 k))) (fun s => l.length - (avN (s.tm 8)).toNat) ?_ ?_
    · refine ⟨0, Nat.zero_le _, ?_⟩
      simp -dsimp -implicitDefEqProofs (disch := first | omega | (simp only [List.length_append, List.length_cons, List.length_nil, List.length_take, List.length_drop]; omega)) only [Int.natCast_zero, ↓aPre, aPost, oneW, allOne, retV, retVA, ↓reduceIte, reduceCtorEq, Nat.reduceAdd, Nat.reduceSub, Nat.reduceMul, Nat.reduceLT, Nat.reduceLeDiff, Nat.reduceEqDiff, Nat.reduceDiv, Nat.reduceMod, Nat.reducePow, Int.reduceAdd, Int.reduceSub, Int.reduceMul, Int.reduceLT, Int.reduceLE, Int.reduceEq, Int.reduceNe, Int.reducePow, Int.reduceToNat, Int.reduceNeg]
    rintro s ⟨k, hk, hs⟩
    by_cases hlt : k < m
    · have hne : ¬ v = l.getD k 0 := fun e => hno k hlt e.symm
      simp -dsimp -implicitDefEqProofs (disch := first | omega | (simp only [List.length_append, List.length_cons, List.length_nil, List.length_take, List.length_drop]; omega)) only [hs, ibeq_f hne, ↓aPre, aPost, oneW, allOne, retV, retVA, ↓reduceIte, reduceCtorEq, Nat.reduceAdd, Nat.reduceSub, Nat.reduceMul, Nat.reduceLT, Nat.reduceLeDiff, Nat.reduceEqDiff, Nat.reduceDiv, Nat.reduceMod, Nat.reducePow, Int.reduceAdd, Int.reduceSub, Int.reduceMul, Int.reduceLT, Int.reduceLE, Int.reduceEq, Int.reduceNe, Int.reducePow, Int.reduceToNat, Int.reduceNeg]
      refine round_of ⟨k + 1, by omega, ?_⟩ ?_
      · simp -dsimp -implicitDefEqProofs (disch := first | omega | (simp only [List.length_append, List.length_cons, List.length_nil, List.length_take, List.length_drop]; omega)) only [hs, ↓aPre, aPost, oneW, allOne, retV, retVA, ↓reduceIte, reduceCtorEq, Nat.reduceAdd, Nat.reduceSub, Nat.reduceMul, Nat.reduceLT, Nat.reduceLeDiff, Nat.reduceEqDiff, Nat.reduceDiv, Nat.reduceMod, Nat.reducePow, Int.reduceAdd, Int.reduceSub, Int.reduceMul, Int.reduceLT, Int.reduceLE, Int.reduceEq, Int.reduceNe, Int.reducePow, Int.reduceToNat, Int.reduceNeg]
      · simp -dsimp -implicitDefEqProofs (disch := first | omega | (simp only [List.length_append, List.length_cons, List.length_nil, List.length_take, List.length_drop]; omega)) only [hs, ↓aPre, aPost, oneW, allOne, retV, retVA, ↓reduceIte, reduceCtorEq, Nat.reduceAdd, Nat.reduceSub, Nat.reduceMul, Nat.reduceLT, Nat.reduceLeDiff, Nat.reduceEqDiff, Nat.reduceDiv, Nat.reduceMod, Nat.reducePow, Int.reduceAdd, Int.reduceSub, Int.reduceMul, Int.reduceLT, Int.reduceLE, Int.reduceEq, Int.reduceNe, Int.reducePow, Int.reduceToNat, Int.reduceNeg]
        omega
    · obtain rfl : k = m := by omega
      simp -dsimp -implicitDefEqProofs (disch := first | omega | (simp only [List.length_append, List.length_cons, List.length_nil, List.length_take, List.length_drop]; omega)) only [hs, hmv, ibeq_t, ↓aPre, aPost, oneW, allOne, retV, retVA, ↓reduceIte, reduceCtorEq, Nat.reduceAdd, Nat.reduceSub, Nat.reduceMul, Nat.reduceLT, Nat.reduceLeDiff, Nat.reduceEqDiff, Nat.reduceDiv, Nat.reduceMod, Nat.reducePow, Int.reduceAdd, Int.reduceSub, Int.reduceMul, Int.reduceLT, Int.reduceLE, Int.reduceEq, Int.reduceNe, Int.reducePow, Int.reduceToNat, Int.reduceNeg]
      exact post_eq rfl
  refine Giv.of mixed c16 (Nat.le_of_ble_eq_true rfl) ?_
  simp -dsimp -implicitDefEqProofs (disch := first | omega | (simp only [List.length_append, List.length_cons, List.length_nil, List.length_take, List.length_drop]; omega)) only [a16, ↓aPre, aPost, oneW, allOne, retV, retVA, ↓reduceIte, reduceCtorEq, Nat.reduceAdd, Nat.reduceSub, Nat.reduceMul, Nat.reduceLT, Nat.reduceLeDiff, Nat.reduceEqDiff, Nat.reduceDiv, Nat.reduceMod, Nat.reducePow, Int.reduceAdd, Int.reduceSub, Int.reduceMul, Int.reduceLT, Int.reduceLE, Int.reduceEq, Int.reduceNe, Int.reducePow, Int.reduceToNat, Int.reduceNeg]
  refine call_giv h28 ?_
  simp -dsimp -implicitDefEqProofs (disch := first | omega | (simp only [List.length_append, List.length_cons, List.length_nil, List.length_take, List.length_drop]; omega)) only [↓aPre, aPost, oneW, allOne, retV, retVA, ↓reduceIte, reduceCtorEq, Nat.reduceAdd, Nat.reduceSub, Nat.reduceMul, Nat.reduceLT, Nat.reduceLeDiff, Nat.reduceEqDiff, Nat.reduceDiv, Nat.reduceMod, Nat.reducePow, Int.reduceAdd, Int.reduceSub, Int.reduceMul, Int.reduceLT, Int.reduceLE, Int.reduceEq, Int.reduceNe, Int.reducePow, Int.reduceToNat, Int.reduceNeg]
  exact post_eq rfl
theorem clone_o (l : List Int) (hl : l.length ≤ 100000000) : GivO Try.prog 17 [.lst 1 (li .i64 l)] (.sl 0 1 0 l.length) (.row 1 (li .i64 l)) := by
  refine GivO.of mixed c17 (Nat.le_of_ble_eq_true rfl) ?_
  simp -dsimp -implicitDefEqProofs (disch := first | omega | (simp only [List.length_append, List.length_cons, List.length_nil, List.length_take, List.length_drop]; omega)) only [a17, ↓aPre, aPost, oneW, allOne, retV, retVA, ↓reduceIte, reduceCtorEq, Nat.reduceAdd, Nat.reduceSub, Nat.reduceMul, Nat.reduceLT, Nat.reduceLeDiff, Nat.reduceEqDiff, Nat.reduceDiv, Nat.reduceMod, Nat.reducePow, Int.reduceAdd, Int.reduceSub, Int.reduceMul, Int.reduceLT, Int.reduceLE, Int.reduceEq, Int.reduceNe, Int.reducePow, Int.reduceToNat, Int.reduceNeg]
  refine nil_split (fun h0 => ?_) ?_
  · simp -dsimp -implicitDefEqProofs (disch := first | omega | (simp only [List.length_append, List.length_cons, List.length_nil, List.length_take, List.length_drop]; omega)) only [↓aPre, aPost, oneW, allOne, retV, retVA, ↓reduceIte, reduceCtorEq, Nat.reduceAdd, Nat.reduceSub, Nat.reduceMul, Nat.reduceLT, Nat.reduceLeDiff, Nat.reduceEqDiff, Nat.reduceDiv, Nat.reduceMod, Nat.reducePow, Int.reduceAdd, Int.reduceSub, Int.reduceMul, Int.reduceLT, Int.reduceLE, Int.reduceEq, Int.reduceNe, Int.reducePow, Int.reduceToNat, Int.reduceNeg]
    have hn : l = [] := List.eq_nil_of_length_eq_zero h0
    rw [hn]
    exact own_nil 1 (by decide) rfl ⟨rfl, rfl⟩
  · simp -dsimp -implicitDefEqProofs (disch := first | omega | (simp only [List.length_append, List.length_cons, List.length_nil, List.length_take, List.length_drop]; omega)) only [↓aPre, aPost, oneW, allOne, retV, retVA, ↓reduceIte, reduceCtorEq, Nat.reduceAdd, Nat.reduceSub, Nat.reduceMul, Nat.reduceLT, Nat.reduceLeDiff, Nat.reduceEqDiff, Nat.reduceDiv, Nat.reduceMod, Nat.reducePow, Int.reduceAdd, Int.reduceSub, Int.reduceMul, Int.reduceLT, Int.reduceLE, Int.reduceEq, Int.reduceNe, Int.reducePow, Int.reduceToNat, Int.reduceNeg]
    exact own_of 5 _ _ (by decide) rfl (by simp -dsimp -implicitDefEqProofs (disch := first | omega | (simp only [List.length_append, List.length_cons, List.length_nil, List.length_take, List.length_drop]; omega)) only [↓aPre, aPost, oneW, allOne, retV, retVA, ↓reduceIte, reduceCtorEq, Nat.reduceAdd, Nat.reduceSub, Nat.reduceMul, Nat.reduceLT, Nat.reduceLeDiff, Nat.reduceEqDiff, Nat.reduceDiv, Nat.reduceMod, Nat.reducePow, Int.reduceAdd, Int.reduceSub, Int.reduceMul, Int.reduceLT, Int.reduceLE, Int.reduceEq, Int.reduceNe, Int.reducePow, Int.reduceToNat, Int.reduceNeg]) rfl ⟨rfl, rfl⟩
theorem equal_t (l : List Int) (hl : l.length ≤ 100000000) : Giv Try.prog 19 [.lst 1 (li .i64 l), .lst 1 (li .i64 l)] (retV [.c (.bool true)]) := by
  refine Giv.of mixed c19 (Nat.le_of_ble_eq_true rfl) ?_
  simp -dsimp -implicitDefEqProofs (disch := first | omega | (simp only [List.length_append, List.length_cons, List.length_nil, List.length_take, List.length_drop]; omega)) only [a19, ibne_f, ↓aPre, aPost, oneW, allOne, retV, retVA, ↓reduceIte, reduceCtorEq, Nat.reduceAdd, Nat.reduceSub, Nat.reduceMul, Nat.reduceLT, Nat.reduceLeDiff, Nat.reduceEqDiff, Nat.reduceDiv, Nat.reduceMod, Nat.reducePow, Int.reduceAdd, Int.reduceSub, Int.reduceMul, Int.reduceLT, Int.reduceLE, Int.reduceEq, Int.reduceNe, Int.reducePow, Int.reduceToNat, Int.reduceNeg]
  refine loop_of (fun s => ∃ (k : Nat), k ≤ l.length ∧ s.tm 0 = .d (.lst 1 (li .i64 l)) ∧ s.tm 1 = .d (.lst 1 (li .i64 l)) ∧ s.tm 12 = .d (.c (.int .i64 l.length)) ∧ s.tm 13 = .d (.c (.int .i64 k))) (fun s => l.length - (avN (s.tm 13)).toNat) ?_ ?_
  · refine ⟨0, Nat.zero_le _, ?_⟩
    simp -dsimp -implicitDefEqProofs (disch := first | omega | (simp only [List.length_append, List.length_cons, List.length_nil, List.length_take, List.length_drop]; omega)) only [Int.natCast_zero, ↓aPre, aPost, oneW, allOne, retV, retVA, ↓reduceIte, reduceCtorEq, Nat.reduceAdd, Nat.reduceSub, Nat.reduceMul, Nat.reduceLT, Nat.reduceLeDiff, Nat.reduceEqDiff, Nat.reduceDiv, Nat.reduceMod, Nat.reducePow, Int.reduceAdd, Int.reduceSub, Int.reduceMul, Int.reduceLT, Int.reduceLE, Int.reduceEq, Int.reduceNe, Int.reducePow, Int.reduceToNat, Int.reduceNeg]
  rintro s ⟨k, hk, hs⟩
  by_cases hlt : k < l.length
  · simp -dsimp -implicitDefEqProofs (disch := first | omega | (simp only [List.length_append, List.length_cons, List.length_nil, List.length_take, List.length_drop]; omega)) only [hs, ibne_f, ↓aPre, aPost, oneW, allOne, retV, retVA, ↓reduceIte, reduceCtorEq, Nat.reduceAdd, Nat.reduceSub, Nat.reduceMul, Nat.reduceLT, Nat.reduceLeDiff, Nat.reduceEqDiff, Nat.reduceDiv, Nat.reduceMod, Nat.reducePow, Int.reduceAdd, Int.reduceSub, Int.reduceMul, Int.reduceLT, Int.reduceLE, Int.reduceEq, Int.reduceNe, Int.reducePow, Int.reduceToNat, Int.reduceNeg]
    refine round_of ⟨k + 1, by omega, ?_⟩ ?_
    · simp -dsimp -implicitDefEqProofs (disch := first | omega | (simp only [List.length_append, List.length_cons, List.length_nil, List.length_take, List.length_drop]; omega)) only [hs, ↓aPre, aPost, oneW, allOne, retV, retVA, ↓reduceIte, reduceCtorEq, Nat.reduceAdd, Nat.reduceSub, Nat.reduceMul, Nat.reduceLT, Nat.reduceLeDiff, Nat.reduceEqDiff, Nat.reduceDiv, Nat.reduceMod, Nat.reducePow, Int.reduceAdd, Int.reduceSub, Int.reduceMul, Int.reduceLT, Int.reduceLE, Int.reduceEq, Int.reduceNe, Int.reducePow, Int.reduceToNat, Int.reduceNeg]
    · simp -dsimp -implicitDefEqProofs (disch := first | omega | (simp only [List.length_append, List.length_cons, List.length_nil, List.length_take, List.length_drop]; omega)) only [hs, ↓aPre, aPost, oneW, allOne, retV, retVA, ↓reduceIte, reduceCtorEq, Nat.reduceAdd, Nat.reduceSub, Nat.reduceMul, Nat.reduceLT, Nat.reduceLeDiff, Nat.reduceEqDiff, Nat.reduceDiv, Nat.reduceMod, Nat.reducePow, Int.reduceAdd, Int.reduceSub, Int.reduceMul, Int.reduceLT, Int.reduceLE, Int.reduceEq, Int.reduceNe, Int.reducePow, Int.reduceToNat, Int.reduceNeg]
      omega
  · obtain rfl : k = l.length := by omega
    simp -dsimp -implicitDefEqProofs (disch := first | omega | (simp only [List.length_append, List.length_cons, List.length_nil, List.length_take, List.length_drop]; omega)) only [hs, ↓aPre, aPost, oneW, allOne, retV, retVA, ↓reduceIte, reduceCtorEq, Nat.reduceAdd, Nat.reduceSub, Nat.reduceMul, Nat.reduceLT, Nat.reduceLeDiff, Nat.reduceEqDiff, Nat.reduceDiv, Nat.reduceMod, Nat.reducePow, Int.reduceAdd, Int.reduceSub, Int.reduceMul, Int.reduceLT, Int.reduceLE, Int.reduceEq, Int.reduceNe, Int.reducePow, Int.reduceToNat, Int.reduceNeg]
    exact post_eq rfl
theorem new_o {W H n : Nat} (hW : W ≤ 12) (hH : H ≤ 12) (hn : W * H = n) : GivO Try.prog 15 [.c (.int .i64 W), .c (.int .i64 H)] (.tup [.agg [.d (.c (.int .i64 W)), .d (.c (.int .i64 H)), .sl 0 1 0 n], .d (.c (.int .i64 0))]) (.row 1 (li .i64 (List.replicate n 0))) := by
  have hn2 : (W : Int) * (H : Int) = n := by rw [← hn, Int.natCast_mul]
  have hnb : n ≤ 144 := by rw [← hn]; exact Nat.mul_le_mul hW hH
  have hf : fitP (W : Int) (H : Int) := ⟨by omega, by omega, by omega, by omega, by omega⟩
  refine GivO.of mixed c15 (Nat.le_of_ble_eq_true rfl) ?_
  simp -dsimp -implicitDefEqProofs (disch := first | omega | (simp only [List.length_append, List.length_cons, List.length_nil, List.length_take, List.length_drop]; omega)) only [a15, ↓aPre, aPost, oneW, allOne, retV, retVA, ↓reduceIte, reduceCtorEq, Nat.reduceAdd, Nat.reduceSub, Nat.reduceMul, Nat.reduceLT, Nat.reduceLeDiff, Nat.reduceEqDiff, Nat.reduceDiv, Nat.reduceMod, Nat.reducePow, Int.reduceAdd, Int.reduceSub, Int.reduceMul, Int.reduceLT, Int.reduceLE, Int.reduceEq, Int.reduceNe, Int.reducePow, Int.reduceToNat, Int.reduceNeg]
  refine call_giv (fits_giv W H) ?_
  simp -dsimp -implicitDefEqProofs (disch := first | omega | (simp only [List.length_append, List.length_cons, List.length_nil, List.length_take, List.length_drop]; omega)) only [hf, hn2, ↓aPre, aPost, oneW, allOne, retV, retVA, ↓reduceIte, reduceCtorEq, Nat.reduceAdd, Nat.reduceSub, Nat.reduceMul, Nat.reduceLT, Nat.reduceLeDiff, Nat.reduceEqDiff, Nat.reduceDiv, Nat.reduceMod, Nat.reducePow, Int.reduceAdd, Int.reduceSub, Int.reduceMul, Int.reduceLT, Int.reduceLE, Int.reduceEq, Int.reduceNe, Int.reducePow, Int.reduceToNat, Int.reduceNeg]
  exact own_of 16 _ _ (by decide) rfl (by simp -dsimp -implicitDefEqProofs (disch := first | omega | (simp only [List.length_append, List.length_cons, List.length_nil, List.length_take, List.length_drop]; omega)) only [↓aPre, aPost, oneW, allOne, retV, retVA, ↓reduceIte, reduceCtorEq, Nat.reduceAdd, Nat.reduceSub, Nat.reduceMul, Nat.reduceLT, Nat.reduceLeDiff, Nat.reduceEqDiff, Nat.reduceDiv, Nat.reduceMod, Nat.reducePow, Int.reduceAdd, Int.reduceSub, Int.reduceMul, Int.reduceLT, Int.reduceLE, Int.reduceEq, Int.reduceNe, Int.reducePow, Int.reduceToNat, Int.reduceNeg]) rfl ⟨rfl, rfl⟩
def fil (k j : Nat) : Int := if j < k then (j : Int) else 0
theorem fil_set {k n : Nat} (h : k < n) : (tab (fil k) n).set k (k : Int) = tab (fil (k + 1)) n := by
  rw [tab_set _ h]
  refine tab_congr _ fun j hj => ?_
  unfold fil
  by_cases c : j = k
  · subst c; rw [if_pos rfl, if_pos (by omega)]
  · rw [if_neg c]
    by_cases c2 : j < k
    · rw [if_pos c2, if_pos (by omega)]
    · rw [if_neg c2, if_neg (by omega)]
theorem fil_0 (n : Nat) : List.replicate n (0 : Int) = tab (fil 0) n := by
  rw [rep_tab]
  exact tab_congr _ fun j _ => by rw [fil, if_neg (by omega)]
theorem fil_n (n : Nat) : tab (fil n) n = iota n := tab_congr _ fun j h => by rw [fil, if_pos h]
theorem small_of (y : Int) (m : Nat) (hm : 0 < m) : ∃ v : Nat, 1 + (IntKind.u64.wrap y).tmod (m : Int) = v ∧ 1 ≤ v ∧ v ≤ m := by
  have hw : 0 ≤ IntKind.u64.wrap y := by
    have e : IntKind.u64.wrap y = y % 18446744073709551616 := by simp [IntKind.wrap, IntKind.signed, IntKind.bits]
    omega
  rw [Int.tmod_eq_emod_of_nonneg hw]
  have h1 := Int.emod_nonneg (IntKind.u64.wrap y) (show (m : Int) ≠ 0 by omega)
  have h2 := Int.emod_lt_of_pos (IntKind.u64.wrap y) (show (0 : Int) < m by omega)
  exact ⟨(1 + IntKind.u64.wrap y % m).toNat, by omega, by omega, by omega⟩
theorem orientCells_giv (y0 : Int) (h0 : (-9223372036854775808 ≤ y0 ∧ y0 ≤ 9223372036854775807)) (y1 : Int) (h1 : (-9223372036854775808 ≤ y1 ∧ y1 ≤ 9223372036854775807)) (y2 : Int) (h2 : (-9223372036854775808 ≤ y2 ∧ y2 ≤ 9223372036854775807)) : Giv Try.prog 6 [.c (.int .i64 y0), .c (.int .i64 y1), .c (.int .i64 y2)] (.d (.c (.bool true))) := by
  obtain ⟨W, hW, hW1, hW2⟩ := small_of y0 12 (by decide)
  obtain ⟨H, hH, hH1, hH2⟩ := small_of y1 12 (by decide)
  obtain ⟨K, hK, hK1, hK2⟩ := small_of y2 8 (by decide)
  have k12 : ((12 : Nat) : Int) = 12 := rfl
  have k8 : ((8 : Nat) : Int) = 8 := rfl
  rw [k12] at hW hH
  rw [k8] at hK
  obtain ⟨n, hn⟩ : ∃ n, W * H = n := ⟨_, rfl⟩
  have hnb : n ≤ 144 := by rw [← hn]; exact Nat.mul_le_mul hW2 hH2
  have hk : wayP K := ⟨by omega, by omega⟩
  refine Giv.of (out := [.c (.bool true)]) mixed c6 (Nat.le_of_ble_eq_true rfl) ?_
  simp -dsimp -implicitDefEqProofs (disch := first | omega | (simp only [List.length_append, List.length_cons, List.length_nil, List.length_take, List.length_drop]; omega)) only [a6, ↓aPre, aPost, oneW, allOne, retV, retVA, ↓reduceIte, reduceCtorEq, Nat.reduceAdd, Nat.reduceSub, Nat.reduceMul, Nat.reduceLT, Nat.reduceLeDiff, Nat.reduceEqDiff, Nat.reduceDiv, Nat.reduceMod, Nat.reducePow, Int.reduceAdd, Int.reduceSub, Int.reduceMul, Int.reduceLT, Int.reduceLE, Int.reduceEq, Int.reduceNe, Int.reducePow, Int.reduceToNat, Int.reduceNeg]
  refine call_giv lives_giv ?_
  simp -dsimp -implicitDefEqProofs (disch := first | omega | (simp only [List.length_append, List.length_cons, List.length_nil, List.length_take, List.length_drop]; omega)) only [hW, hH, ↓aPre, aPost, oneW, allOne, retV, retVA, ↓reduceIte, reduceCtorEq, Nat.reduceAdd, Nat.reduceSub, Nat.reduceMul, Nat.reduceLT, Nat.reduceLeDiff, Nat.reduceEqDiff, Nat.reduceDiv, Nat.reduceMod, Nat.reducePow, Int.reduceAdd, Int.reduceSub, Int.reduceMul, Int.reduceLT, Int.reduceLE, Int.reduceEq, Int.reduceNe, Int.reducePow, Int.reduceToNat, Int.reduceNeg]
  refine call_own (new_o hW2 hH2 hn) ?_
  simp -dsimp -implicitDefEqProofs (disch := first | omega | (simp only [List.length_append, List.length_cons, List.length_nil, List.length_take, List.length_drop]; omega)) only [AV.ren, Ob.ren, ↓aPre, aPost, oneW, allOne, retV, retVA, ↓reduceIte, reduceCtorEq, Nat.reduceAdd, Nat.reduceSub, Nat.reduceMul, Nat.reduceLT, Nat.reduceLeDiff, Nat.reduceEqDiff, Nat.reduceDiv, Nat.reduceMod, Nat.reducePow, Int.reduceAdd, Int.reduceSub, Int.reduceMul, Int.reduceLT, Int.reduceLE, Int.reduceEq, Int.reduceNe, Int.reducePow, Int.reduceToNat, Int.reduceNeg]
  have e0 := fil_0 n
  refine loop_of (fun s => ∃ (k : Nat), k ≤ n ∧ s.tm 2 = .d (.c (.int .i64 y2)) ∧ s.tm 7 = .ptr 7 0 ∧ s.tm 8 = .d (.c (.int .i64 0)) ∧ s.tm 36 = .d (.c (.int .i64 n)) ∧ s.tm 37 = .d (.c (.int .i64 k)) ∧ s.hp 7 = some (.box [.d (.c (.int .i64 W)), .d (.c (.int .i64 H)), .sl 31 1 0 n]) ∧ s.hp 31 = some (.row 1 (li .i64 (tab (fil k) n)))) (fun s => n - (avN (s.tm 37)).toNat) ?_ ?_
  · refine ⟨0, Nat.zero_le _, ?_⟩
    simp -dsimp -implicitDefEqProofs (disch := first | omega | (simp only [List.length_append, List.length_cons, List.length_nil, List.length_take, List.length_drop]; omega)) only [e0, Int.natCast_zero, ↓aPre, aPost, oneW, allOne, retV, retVA, ↓reduceIte, reduceCtorEq, Nat.reduceAdd, Nat.reduceSub, Nat.reduceMul, Nat.reduceLT, Nat.reduceLeDiff, Nat.reduceEqDiff, Nat.reduceDiv, Nat.reduceMod, Nat.reducePow, Int.reduceAdd, Int.reduceSub, Int.reduceMul, Int.reduceLT, Int.reduceLE, Int.reduceEq, Int.reduceNe, Int.reducePow, Int.reduceToNat, Int.reduceNeg]
  rintro s ⟨k, hk0, hs⟩
  have el := tab_len (fil k) n
  by_cases hlt : k < n
  · have hst := fil_set hlt
    simp -dsimp -implicitDefEqProofs (disch := first | omega | (simp only [List.length_append, List.length_cons, List.length_nil, List.length_take, List.length_drop]; omega)) only [hs, el, hst, ↓aPre, aPost, oneW, allOne, retV, retVA, ↓reduceIte, reduceCtorEq, Nat.reduceAdd, Nat.reduceSub, Nat.reduceMul, Nat.reduceLT, Nat.reduceLeDiff, Nat.reduceEqDiff, Nat.reduceDiv, Nat.reduceMod, Nat.reducePow, Int.reduceAdd, Int.reduceSub, Int.reduceMul, Int.reduceLT, Int.reduceLE, Int.reduceEq, Int.reduceNe, Int.reducePow, Int.reduceToNat, Int.reduceNeg]
    refine round_of ⟨k + 1, by omega, ?_⟩ ?_
    · simp -dsimp -implicitDefEqProofs (disch := first | omega | (simp only [List.length_append, List.length_cons, List.length_nil, List.length_take, List.length_drop]; omega)) only [hs, el, hst, ↓aPre, aPost, oneW, allOne, retV, retVA, ↓reduceIte, reduceCtorEq, Nat.reduceAdd, Nat.reduceSub, Nat.reduceMul, Nat.reduceLT, Nat.reduceLeDiff, Nat.reduceEqDiff, Nat.reduceDiv, Nat.reduceMod, Nat.reducePow, Int.reduceAdd, Int.reduceSub, Int.reduceMul, Int.reduceLT, Int.reduceLE, Int.reduceEq, Int.reduceNe, Int.reducePow, Int.reduceToNat, Int.reduceNeg]
    · simp -dsimp -implicitDefEqProofs (disch := first | omega | (simp only [List.length_append, List.length_cons, List.length_nil, List.length_take, List.length_drop]; omega)) only [hs, ↓aPre, aPost, oneW, allOne, retV, retVA, ↓reduceIte, reduceCtorEq, Nat.reduceAdd, Nat.reduceSub, Nat.reduceMul, Nat.reduceLT, Nat.reduceLeDiff, Nat.reduceEqDiff, Nat.reduceDiv, Nat.reduceMod, Nat.reducePow, Int.reduceAdd, Int.reduceSub, Int.reduceMul, Int.reduceLT, Int.reduceLE, Int.reduceEq, Int.reduceNe, Int.reducePow, Int.reduceToNat, Int.reduceNeg]
      omega
  obtain rfl : k = n := by omega
  rw [fil_n] at hs
  have hil := iota_len k
  have hup := up_t K W H (iota k) hk (by omega) (by omega) (by omega) (by rw [hil, hn])
  have hul := upL_len K W H (iota k)
  obtain ⟨u, hu⟩ : ∃ u, u = upL K W H (iota k) := ⟨_, rfl⟩
  have hsrt : srt u = iota k := by
    refine srt_iota (n := k) ?_ fun v hv => ?_
    · rw [hu, hul]
      unfold upW upH
      split
      · rw [Nat.mul_comm]; exact hn
      · exact hn
    · rw [hu]
      refine up_all hk (by rw [hil, hn]) ?_
      have e : (iota k).getD v 0 = (v : Int) := tab_get _ hv
      rw [← e]
      exact getD_mem (by rw [hil]; exact hv)
  obtain ⟨A, hA⟩ : ∃ A, A = upW K W H := ⟨_, rfl⟩
  obtain ⟨B, hB⟩ : ∃ B, B = upH K W H := ⟨_, rfl⟩
  have hcor := fun y x (hy : y = 0 ∨ y + 1 = upH K W H) (hx : x = 0 ∨ x + 1 = upW K W H) => corner (W := W) (H := H) (y := y) (x := x) hk (by omega) (by omega) hy hx
  rw [hn] at hcor
  rw [← hu, ← hA, ← hB] at hup
  rw [← hu, ← hA, ← hB] at hcor
  rw [← hu, ← hA, ← hB] at hul
  have hAB : A * B = k := by
    rw [hA, hB]
    unfold upW upH
    split
    · rw [Nat.mul_comm]; exact hn
    · exact hn
  rw [hAB] at hul
  have hcl := clone_o u (by omega)
  have hso := sort_m u (by omega)
  have heq := equal_t (iota k) (by omega)
  rw [hsrt] at hso
  rw [hul] at hcl hso
  rw [gD, gD] at hup
  have hWH : (W : Int) * (H : Int) = k := by rw [← hn, Int.natCast_mul]
  rw [hWH] at hcor
  have hA1 : 1 ≤ A ∧ A ≤ 12 ∧ 1 ≤ B ∧ B ≤ 12 := by
    rw [hA, hB]; unfold upW upH; split <;> omega
  have hkW : W ≤ k := by rw [← hn]; exact Nat.le_mul_of_pos_right W (by omega)
  have hkA : A ≤ k := by rw [← hAB]; exact Nat.le_mul_of_pos_right A (by omega)
  have hcs : ∀ i, i < 4 → ∃ c : Nat, ([0, (A : Int) - 1, (k : Int) - A, (k : Int) - 1] : List Int).getD i 0 = (c : Int) ∧ c < k ∧ u.getD c 0 ∈ [0, (W : Int) - 1, (k : Int) - W, (k : Int) - 1] := fun i hi => by
    have hBA : (B - 1) * A + A = k := by
      rw [← Nat.succ_mul, Nat.succ_eq_add_one, Nat.sub_add_cancel hA1.2.2.1, Nat.mul_comm]; exact hAB
    obtain rfl | rfl | rfl | rfl : i = 0 ∨ i = 1 ∨ i = 2 ∨ i = 3 := by omega
    · refine ⟨0, rfl, by omega, ?_⟩
      have := hcor 0 0 (.inl rfl) (.inl rfl)
      rwa [Nat.zero_mul, Nat.zero_add] at this
    · refine ⟨A - 1, ?_, by omega, ?_⟩
      · show (A : Int) - 1 = _
        omega
      · have := hcor 0 (A - 1) (.inl rfl) (.inr (by omega))
        rwa [Nat.zero_mul, Nat.zero_add] at this
    · refine ⟨k - A, ?_, by omega, ?_⟩
      · show (k : Int) - A = _
        omega
      · have := hcor (B - 1) 0 (.inr (by omega)) (.inl rfl)
        rwa [Nat.add_zero, show (B - 1) * A = k - A by omega] at this
    · refine ⟨k - 1, ?_, by omega, ?_⟩
      · show (k : Int) - 1 = _
        omega
      · have := hcor (B - 1) (A - 1) (.inr (by omega)) (.inr (by omega))
        rwa [show (B - 1) * A + (A - 1) = k - 1 by omega] at this
  simp -dsimp -implicitDefEqProofs (disch := first | omega | (simp only [List.length_append, List.length_cons, List.length_nil, List.length_take, List.length_drop]; omega)) only [hs, hK, ↓aPre, aPost, oneW, allOne, retV, retVA, ↓reduceIte, reduceCtorEq, Nat.reduceAdd, Nat.reduceSub, Nat.reduceMul, Nat.reduceLT, Nat.reduceLeDiff, Nat.reduceEqDiff, Nat.reduceDiv, Nat.reduceMod, Nat.reducePow, Int.reduceAdd, Int.reduceSub, Int.reduceMul, Int.reduceLT, Int.reduceLE, Int.reduceEq, Int.reduceNe, Int.reducePow, Int.reduceToNat, Int.reduceNeg]
  refine call_giv hup ?_
  by_cases h5 : 5 ≤ (K : Int)
  · have eA : A = H := by rw [hA, upW, if_pos h5]
    have eB : B = W := by rw [hB, upH, if_pos h5]
    have h5a : ¬ (K : Int) < 5 := by omega
    have h5b : (K : Int) > 4 := by omega
    simp -dsimp -implicitDefEqProofs (disch := first | omega | (simp only [List.length_append, List.length_cons, List.length_nil, List.length_take, List.length_drop]; omega)) only [hs, h5a, h5b, eA, eB, ibne_f, ↓aPre, aPost, oneW, allOne, retV, retVA, ↓reduceIte, reduceCtorEq, Nat.reduceAdd, Nat.reduceSub, Nat.reduceMul, Nat.reduceLT, Nat.reduceLeDiff, Nat.reduceEqDiff, Nat.reduceDiv, Nat.reduceMod, Nat.reducePow, Int.reduceAdd, Int.reduceSub, Int.reduceMul, Int.reduceLT, Int.reduceLE, Int.reduceEq, Int.reduceNe, Int.reducePow, Int.reduceToNat, Int.reduceNeg]
    have l1 : ∀ x y z : Int, [D.c (.int .i64 0), D.c (.int .i64 x), D.c (.int .i64 y), D.c (.int .i64 z)] = li .i64 [0, x, y, z] := fun _ _ _ => rfl
    rw [eA] at hcs
    refine loop_of (fun s => ∃ (i : Nat), i ≤ 4 ∧ s.tm 7 = .ptr 7 0 ∧ s.tm 11 = .ptr 11 0 ∧ s.tm 14 = .d (.lst 1 (li .i64 [0, (W : Int) - 1, (k : Int) - W, (k : Int) - 1])) ∧ s.tm 121 = .d (.lst 1 (li .i64 [0, (H : Int) - 1, (k : Int) - H, (k : Int) - 1])) ∧ s.tm 122 = .d (.c (.int .i64 4)) ∧ s.tm 123 = .d (.c (.int .i64 i)) ∧ s.hp 7 = some (.box [.d (.c (.int .i64 W)), .d (.c (.int .i64 H)), .sl 31 1 0 k]) ∧ s.hp 31 = some (.ice 1 (li .i64 (iota k))) ∧ s.hp 11 = some (.box [.d (.c (.int .i64 H)), .d (.c (.int .i64 W)), .d (.lst 1 (li .i64 u))])) (fun s => 4 - (avN (s.tm 123)).toNat) ?_ ?_
    · refine ⟨0, Nat.zero_le _, ?_⟩
      simp -dsimp -implicitDefEqProofs (disch := first | omega | (simp only [List.length_append, List.length_cons, List.length_nil, List.length_take, List.length_drop]; omega)) only [hs, l1, Int.natCast_zero, ↓aPre, aPost, oneW, allOne, retV, retVA, ↓reduceIte, reduceCtorEq, Nat.reduceAdd, Nat.reduceSub, Nat.reduceMul, Nat.reduceLT, Nat.reduceLeDiff, Nat.reduceEqDiff, Nat.reduceDiv, Nat.reduceMod, Nat.reducePow, Int.reduceAdd, Int.reduceSub, Int.reduceMul, Int.reduceLT, Int.reduceLE, Int.reduceEq, Int.reduceNe, Int.reducePow, Int.reduceToNat, Int.reduceNeg]
    rintro s ⟨i, hi, hs⟩
    by_cases hlt : i < 4
    · obtain ⟨c, hc1, hc2, hc3⟩ := hcs i hlt
      have hh := has_t hc3 (by simp)
      have hl4 : ([0, (H : Int) - 1, (k : Int) - H, (k : Int) - 1] : List Int).length = 4 := rfl
      obtain ⟨z, hz⟩ : ∃ z, z = u.getD c 0 := ⟨_, rfl⟩
      rw [← hz] at hh
      simp -dsimp -implicitDefEqProofs (disch := first | omega | (simp only [List.length_append, List.length_cons, List.length_nil, List.length_take, List.length_drop]; omega)) only [hs, hl4, hc1, hz.symm, ↓aPre, aPost, oneW, allOne, retV, retVA, ↓reduceIte, reduceCtorEq, Nat.reduceAdd, Nat.reduceSub, Nat.reduceMul, Nat.reduceLT, Nat.reduceLeDiff, Nat.reduceEqDiff, Nat.reduceDiv, Nat.reduceMod, Nat.reducePow, Int.reduceAdd, Int.reduceSub, Int.reduceMul, Int.reduceLT, Int.reduceLE, Int.reduceEq, Int.reduceNe, Int.reducePow, Int.reduceToNat, Int.reduceNeg]
      refine call_giv hh ?_
      simp -dsimp -implicitDefEqProofs (disch := first | omega | (simp only [List.length_append, List.length_cons, List.length_nil, List.length_take, List.length_drop]; omega)) only [hs, ↓aPre, aPost, oneW, allOne, retV, retVA, ↓reduceIte, reduceCtorEq, Nat.reduceAdd, Nat.reduceSub, Nat.reduceMul, Nat.reduceLT, Nat.reduceLeDiff, Nat.reduceEqDiff, Nat.reduceDiv, Nat.reduceMod, Nat.reducePow, Int.reduceAdd, Int.reduceSub, Int.reduceMul, Int.reduceLT, Int.reduceLE, Int.reduceEq, Int.reduceNe, Int.reducePow, Int.reduceToNat, Int.reduceNeg]
      refine round_of ⟨i + 1, by omega, ?_⟩ ?_
      · simp -dsimp -implicitDefEqProofs (disch := first | omega | (simp only [List.length_append, List.length_cons, List.length_nil, List.length_take, List.length_drop]; omega)) only [hs, ↓aPre, aPost, oneW, allOne, retV, retVA, ↓reduceIte, reduceCtorEq, Nat.reduceAdd, Nat.reduceSub, Nat.reduceMul, Nat.reduceLT, Nat.reduceLeDiff, Nat.reduceEqDiff, Nat.reduceDiv, Nat.reduceMod, Nat.reducePow, Int.reduceAdd, Int.reduceSub, Int.reduceMul, Int.reduceLT, Int.reduceLE, Int.reduceEq, Int.reduceNe, Int.reducePow, Int.reduceToNat, Int.reduceNeg]
      · simp -dsimp -implicitDefEqProofs (disch := first | omega | (simp only [List.length_append, List.length_cons, List.length_nil, List.length_take, List.length_drop]; omega)) only [hs, ↓aPre, aPost, oneW, allOne, retV, retVA, ↓reduceIte, reduceCtorEq, Nat.reduceAdd, Nat.reduceSub, Nat.reduceMul, Nat.reduceLT, Nat.reduceLeDiff, Nat.reduceEqDiff, Nat.reduceDiv, Nat.reduceMod, Nat.reducePow, Int.reduceAdd, Int.reduceSub, Int.reduceMul, Int.reduceLT, Int.reduceLE, Int.reduceEq, Int.reduceNe, Int.reducePow, Int.reduceToNat, Int.reduceNeg]
        omega
    obtain rfl : i = 4 := by omega
    simp -dsimp -implicitDefEqProofs (disch := first | omega | (simp only [List.length_append, List.length_cons, List.length_nil, List.length_take, List.length_drop]; omega)) only [hs, ↓aPre, aPost, oneW, allOne, retV, retVA, ↓reduceIte, reduceCtorEq, Nat.reduceAdd, Nat.reduceSub, Nat.reduceMul, Nat.reduceLT, Nat.reduceLeDiff, Nat.reduceEqDiff, Nat.reduceDiv, Nat.reduceMod, Nat.reducePow, Int.reduceAdd, Int.reduceSub, Int.reduceMul, Int.reduceLT, Int.reduceLE, Int.reduceEq, Int.reduceNe, Int.reducePow, Int.reduceToNat, Int.reduceNeg]
    refine call_own hcl ?_
    simp -dsimp -implicitDefEqProofs (disch := first | omega | (simp only [List.length_append, List.length_cons, List.length_nil, List.length_take, List.length_drop]; omega)) only [hs, AV.ren, Ob.ren, ↓aPre, aPost, oneW, allOne, retV, retVA, ↓reduceIte, reduceCtorEq, Nat.reduceAdd, Nat.reduceSub, Nat.reduceMul, Nat.reduceLT, Nat.reduceLeDiff, Nat.reduceEqDiff, Nat.reduceDiv, Nat.reduceMod, Nat.reducePow, Int.reduceAdd, Int.reduceSub, Int.reduceMul, Int.reduceLT, Int.reduceLE, Int.reduceEq, Int.reduceNe, Int.reducePow, Int.reduceToNat, Int.reduceNeg]
    refine call_mut hso [(2000000, 138)] rfl rfl ?_ ?_
    · simp -dsimp -implicitDefEqProofs (disch := first | omega | (simp only [List.length_append, List.length_cons, List.length_nil, List.length_take, List.length_drop]; omega)) only [hs, ↓aPre, aPost, oneW, allOne, retV, retVA, ↓reduceIte, reduceCtorEq, Nat.reduceAdd, Nat.reduceSub, Nat.reduceMul, Nat.reduceLT, Nat.reduceLeDiff, Nat.reduceEqDiff, Nat.reduceDiv, Nat.reduceMod, Nat.reducePow, Int.reduceAdd, Int.reduceSub, Int.reduceMul, Int.reduceLT, Int.reduceLE, Int.reduceEq, Int.reduceNe, Int.reducePow, Int.reduceToNat, Int.reduceNeg]
    simp -dsimp -implicitDefEqProofs (disch := first | omega | (simp only [List.length_append, List.length_cons, List.length_nil, List.length_take, List.length_drop]; omega)) only [hs, ↓aPre, aPost, oneW, allOne, retV, retVA, ↓reduceIte, reduceCtorEq, Nat.reduceAdd, Nat.reduceSub, Nat.reduceMul, Nat.reduceLT, Nat.reduceLeDiff, Nat.reduceEqDiff, Nat.reduceDiv, Nat.reduceMod, Nat.reducePow, Int.reduceAdd, Int.reduceSub, Int.reduceMul, Int.reduceLT, Int.reduceLE, Int.reduceEq, Int.reduceNe, Int.reducePow, Int.reduceToNat, Int.reduceNeg]
    refine call_giv heq ?_
    simp -dsimp -implicitDefEqProofs (disch := first | omega | (simp only [List.length_append, List.length_cons, List.length_nil, List.length_take, List.length_drop]; omega)) only [hs, ↓aPre, aPost, oneW, allOne, retV, retVA, ↓reduceIte, reduceCtorEq, Nat.reduceAdd, Nat.reduceSub, Nat.reduceMul, Nat.reduceLT, Nat.reduceLeDiff, Nat.reduceEqDiff, Nat.reduceDiv, Nat.reduceMod, Nat.reducePow, Int.reduceAdd, Int.reduceSub, Int.reduceMul, Int.reduceLT, Int.reduceLE, Int.reduceEq, Int.reduceNe, Int.reducePow, Int.reduceToNat, Int.reduceNeg]
    exact post_eq rfl
  · have eA : A = W := by rw [hA, upW, if_neg h5]
    have eB : B = H := by rw [hB, upH, if_neg h5]
    have h5a : (K : Int) < 5 := by omega
    have h5b : ¬ (K : Int) > 4 := by omega
    simp -dsimp -implicitDefEqProofs (disch := first | omega | (simp only [List.length_append, List.length_cons, List.length_nil, List.length_take, List.length_drop]; omega)) only [hs, h5a, h5b, eA, eB, ibne_f, ↓aPre, aPost, oneW, allOne, retV, retVA, ↓reduceIte, reduceCtorEq, Nat.reduceAdd, Nat.reduceSub, Nat.reduceMul, Nat.reduceLT, Nat.reduceLeDiff, Nat.reduceEqDiff, Nat.reduceDiv, Nat.reduceMod, Nat.reducePow, Int.reduceAdd, Int.reduceSub, Int.reduceMul, Int.reduceLT, Int.reduceLE, Int.reduceEq, Int.reduceNe, Int.reducePow, Int.reduceToNat, Int.reduceNeg]
    have l1 : ∀ x y z : Int, [D.c (.int .i64 0), D.c (.int .i64 x), D.c (.int .i64 y), D.c (.int .i64 z)] = li .i64 [0, x, y, z] := fun _ _ _ => rfl
    rw [eA] at hcs
    refine loop_of (fun s => ∃ (i : Nat), i ≤ 4 ∧ s.tm 7 = .ptr 7 0 ∧ s.tm 11 = .ptr 11 0 ∧ s.tm 14 = .d (.lst 1 (li .i64 [0, (W : Int) - 1, (k : Int) - W, (k : Int) - 1])) ∧ s.tm 121 = .d (.lst 1 (li .i64 [0, (W : Int) - 1, (k : Int) - W, (k : Int) - 1])) ∧ s.tm 122 = .d (.c (.int .i64 4)) ∧ s.tm 123 = .d (.c (.int .i64 i)) ∧ s.hp 7 = some (.box [.d (.c (.int .i64 W)), .d (.c (.int .i64 H)), .sl 31 1 0 k]) ∧ s.hp 31 = some (.ice 1 (li .i64 (iota k))) ∧ s.hp 11 = some (.box [.d (.c (.int .i64 W)), .d (.c (.int .i64 H)), .d (.lst 1 (li .i64 u))])) (fun s => 4 - (avN (s.tm 123)).toNat) ?_ ?_
    · refine ⟨0, Nat.zero_le _, ?_⟩
      simp -dsimp -implicitDefEqProofs (disch := first | omega | (simp only [List.length_append, List.length_cons, List.length_nil, List.length_take, List.length_drop]; omega)) only [hs, l1, Int.natCast_zero, ↓aPre, aPost, oneW, allOne, retV, retVA, ↓reduceIte, reduceCtorEq, Nat.reduceAdd, Nat.reduceSub, Nat.reduceMul, Nat.reduceLT, Nat.reduceLeDiff, Nat.reduceEqDiff, Nat.reduceDiv, Nat.reduceMod, Nat.reducePow, Int.reduceAdd, Int.reduceSub, Int.reduceMul, Int.reduceLT, Int.reduceLE, Int.reduceEq, Int.reduceNe, Int.reducePow, Int.reduceToNat, Int.reduceNeg]
    rintro s ⟨i, hi, hs⟩
    by_cases hlt : i < 4
    · obtain ⟨c, hc1, hc2, hc3⟩ := hcs i hlt
      have hh := has_t hc3 (by simp)
      have hl4 : ([0, (W : Int) - 1, (k : Int) - W, (k : Int) - 1] : List Int).length = 4 := rfl
      obtain ⟨z, hz⟩ : ∃ z, z = u.getD c 0 := ⟨_, rfl⟩
      rw [← hz] at hh
      simp -dsimp -implicitDefEqProofs (disch := first | omega | (simp only [List.length_append, List.length_cons, List.length_nil, List.length_take, List.length_drop]; omega)) only [hs, hl4, hc1, hz.symm, ↓aPre, aPost, oneW, allOne, retV, retVA, ↓reduceIte, reduceCtorEq, Nat.reduceAdd, Nat.reduceSub, Nat.reduceMul, Nat.reduceLT, Nat.reduceLeDiff, Nat.reduceEqDiff, Nat.reduceDiv, Nat.reduceMod, Nat.reducePow, Int.reduceAdd, Int.reduceSub, Int.reduceMul, Int.reduceLT, Int.reduceLE, Int.reduceEq, Int.reduceNe, Int.reducePow, Int.reduceToNat, Int.reduceNeg]
      refine call_giv hh ?_
      simp -dsimp -implicitDefEqProofs (disch := first | omega | (simp only [List.length_append, List.length_cons, List.length_nil, List.length_take, List.length_drop]; omega)) only [hs, ↓aPre, aPost, oneW, allOne, retV, retVA, ↓reduceIte, reduceCtorEq, Nat.reduceAdd, Nat.reduceSub, Nat.reduceMul, Nat.reduceLT, Nat.reduceLeDiff, Nat.reduceEqDiff, Nat.reduceDiv, Nat.reduceMod, Nat.reducePow, Int.reduceAdd, Int.reduceSub, Int.reduceMul, Int.reduceLT, Int.reduceLE, Int.reduceEq, Int.reduceNe, Int.reducePow, Int.reduceToNat, Int.reduceNeg]
      refine round_of ⟨i + 1, by omega, ?_⟩ ?_
      · simp -dsimp -implicitDefEqProofs (disch := first | omega | (simp only [List.length_append, List.length_cons, List.length_nil, List.length_take, List.length_drop]; omega)) only [hs, ↓aPre, aPost, oneW, allOne, retV, retVA, ↓reduceIte, reduceCtorEq, Nat.reduceAdd, Nat.reduceSub, Nat.reduceMul, Nat.reduceLT, Nat.reduceLeDiff, Nat.reduceEqDiff, Nat.reduceDiv, Nat.reduceMod, Nat.reducePow, Int.reduceAdd, Int.reduceSub, Int.reduceMul, Int.reduceLT, Int.reduceLE, Int.reduceEq, Int.reduceNe, Int.reducePow, Int.reduceToNat, Int.reduceNeg]
      · simp -dsimp -implicitDefEqProofs (disch := first | omega | (simp only [List.length_append, List.length_cons, List.length_nil, List.length_take, List.length_drop]; omega)) only [hs, ↓aPre, aPost, oneW, allOne, retV, retVA, ↓reduceIte, reduceCtorEq, Nat.reduceAdd, Nat.reduceSub, Nat.reduceMul, Nat.reduceLT, Nat.reduceLeDiff, Nat.reduceEqDiff, Nat.reduceDiv, Nat.reduceMod, Nat.reducePow, Int.reduceAdd, Int.reduceSub, Int.reduceMul, Int.reduceLT, Int.reduceLE, Int.reduceEq, Int.reduceNe, Int.reducePow, Int.reduceToNat, Int.reduceNeg]
        omega
    obtain rfl : i = 4 := by omega
    simp -dsimp -implicitDefEqProofs (disch := first | omega | (simp only [List.length_append, List.length_cons, List.length_nil, List.length_take, List.length_drop]; omega)) only [hs, ↓aPre, aPost, oneW, allOne, retV, retVA, ↓reduceIte, reduceCtorEq, Nat.reduceAdd, Nat.reduceSub, Nat.reduceMul, Nat.reduceLT, Nat.reduceLeDiff, Nat.reduceEqDiff, Nat.reduceDiv, Nat.reduceMod, Nat.reducePow, Int.reduceAdd, Int.reduceSub, Int.reduceMul, Int.reduceLT, Int.reduceLE, Int.reduceEq, Int.reduceNe, Int.reducePow, Int.reduceToNat, Int.reduceNeg]
    refine call_own hcl ?_
    simp -dsimp -implicitDefEqProofs (disch := first | omega | (simp only [List.length_append, List.length_cons, List.length_nil, List.length_take, List.length_drop]; omega)) only [hs, AV.ren, Ob.ren, ↓aPre, aPost, oneW, allOne, retV, retVA, ↓reduceIte, reduceCtorEq, Nat.reduceAdd, Nat.reduceSub, Nat.reduceMul, Nat.reduceLT, Nat.reduceLeDiff, Nat.reduceEqDiff, Nat.reduceDiv, Nat.reduceMod, Nat.reducePow, Int.reduceAdd, Int.reduceSub, Int.reduceMul, Int.reduceLT, Int.reduceLE, Int.reduceEq, Int.reduceNe, Int.reducePow, Int.reduceToNat, Int.reduceNeg]
    refine call_mut hso [(2000000, 138)] rfl rfl ?_ ?_
    · simp -dsimp -implicitDefEqProofs (disch := first | omega | (simp only [List.length_append, List.length_cons, List.length_nil, List.length_take, List.length_drop]; omega)) only [hs, ↓aPre, aPost, oneW, allOne, retV, retVA, ↓reduceIte, reduceCtorEq, Nat.reduceAdd, Nat.reduceSub, Nat.reduceMul, Nat.reduceLT, Nat.reduceLeDiff, Nat.reduceEqDiff, Nat.reduceDiv, Nat.reduceMod, Nat.reducePow, Int.reduceAdd, Int.reduceSub, Int.reduceMul, Int.reduceLT, Int.reduceLE, Int.reduceEq, Int.reduceNe, Int.reducePow, Int.reduceToNat, Int.reduceNeg]
    simp -dsimp -implicitDefEqProofs (disch := first | omega | (simp only [List.length_append, List.length_cons, List.length_nil, List.length_take, List.length_drop]; omega)) only [hs, ↓aPre, aPost, oneW, allOne, retV, retVA, ↓reduceIte, reduceCtorEq, Nat.reduceAdd, Nat.reduceSub, Nat.reduceMul, Nat.reduceLT, Nat.reduceLeDiff, Nat.reduceEqDiff, Nat.reduceDiv, Nat.reduceMod, Nat.reducePow, Int.reduceAdd, Int.reduceSub, Int.reduceMul, Int.reduceLT, Int.reduceLE, Int.reduceEq, Int.reduceNe, Int.reducePow, Int.reduceToNat, Int.reduceNeg]
    refine call_giv heq ?_
    simp -dsimp -implicitDefEqProofs (disch := first | omega | (simp only [List.length_append, List.length_cons, List.length_nil, List.length_take, List.length_drop]; omega)) only [hs, ↓aPre, aPost, oneW, allOne, retV, retVA, ↓reduceIte, reduceCtorEq, Nat.reduceAdd, Nat.reduceSub, Nat.reduceMul, Nat.reduceLT, Nat.reduceLeDiff, Nat.reduceEqDiff, Nat.reduceDiv, Nat.reduceMod, Nat.reducePow, Int.reduceAdd, Int.reduceSub, Int.reduceMul, Int.reduceLT, Int.reduceLE, Int.reduceEq, Int.reduceNe, Int.reducePow, Int.reduceToNat, Int.reduceNeg]
    exact post_eq rfl
end Go.Proofs.Ytdpkmfjjhpfdbaa

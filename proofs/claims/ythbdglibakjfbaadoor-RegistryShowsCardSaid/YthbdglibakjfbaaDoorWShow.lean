/- A field's text, as the program writes it: a list of texts by the values. No condition but what each says. -/
import Derived.Test.YthbdglibakjfbaaDoorWLib1
set_option linter.unusedSimpArgs false
set_option linter.unusedVariables false
set_option maxRecDepth 8000
set_option maxHeartbeats 4000000
set_option linter.unusedSectionVars false
namespace Go.Proofs.YthbdglibakjfbaaDoor
open Go.Eng Go.RowKit
variable [Inhabited Lo]
def a7 : AFn := ⟨5, (.seq (.ops [⟨(.some 0), (.mov (.const (.bool false))), .none⟩]) (.seq (.ops [⟨(.some 1), (.lit 1 [(.const (.int .u64 97)), (.const (.int .u64 0))]), .none⟩, ⟨(.some 2), (.build [(.int .u16 0), (.int .i64 0), (.slice .none 0 0)] [(0, (1, (.const (.int .u16 305)))), (1, (1, (.const (.int .i64 2)))), (2, (1, (.tmp 1)))]), .none⟩, ⟨(.some 3), (.call 3 12 [(.tmp 2)]), .none⟩, ⟨(.some 4), (.bin .eql (.tmp 3) (.const (.string (strOfNums [83, 111, 102, 116, 119, 97, 114, 101, 58, 32, 34, 97, 34])))), .none⟩, ⟨(.some 0), (.mov (.tmp 4)), .none⟩]) .ret)), [(0, .none)]⟩
theorem c7 : cmpF Tryd.prog [] [] 7 = some a7 := by kernel_rfl
def a12 : AFn := ⟨76, (.seq (.ops [⟨(.some 1), (.box 1 3 (.tmp 0)), .none⟩, ⟨(.some 2), (.mov (.const (.string (strOfNums [])))), .none⟩]) (.seq (.ops [⟨(.some 13), (.fadr 0 (.tmp 1)), .none⟩, ⟨(.some 14), (.ld (.tmp 13)), .none⟩, ⟨(.some 15), (.cvI .i64 (.tmp 14)), .none⟩, ⟨(.some 16), (.call 16 22 [(.tmp 15)]), .none⟩, ⟨(.some 3), (.mov (.tmp 16)), .none⟩]) (.seq (.seq (.ops [⟨(.some 18), (.fadr 0 (.tmp 1)), .none⟩, ⟨(.some 19), (.ld (.tmp 18)), .none⟩, ⟨(.some 20), (.call 20 10 [(.tmp 19)]), .none⟩, ⟨(.some 17), (.mov (.tmp 20)), .none⟩, ⟨(.some 21), (.ext (.tmp 17) 0), .none⟩, ⟨(.some 22), (.ext (.tmp 17) 1), .none⟩, ⟨(.some 4), (.alloc 4 [(.int .u16 0), (.string (strOfNums [])), (.slice .none 0 0), (.int .i64 0)]), .none⟩, ⟨.none, (.st 4 (.tmp 4) (.tmp 21)), .none⟩, ⟨(.some 5), (.mov (.tmp 22)), .none⟩]) (.seq (.ops [⟨(.some 23), (.mov (.tmp 5)), .none⟩]) (.cond (.tmp 23) (.ops [⟨(.some 24), (.fadr 1 (.tmp 4)), .none⟩, ⟨(.some 25), (.ld (.tmp 24)), .none⟩, ⟨(.some 3), (.mov (.tmp 25)), .none⟩]) .skip))) (.seq (.ops [⟨(.some 6), (.mov (.const (.slice .none 0 0))), .none⟩]) (.seq (.seq (.ops [⟨(.some 27), (.fadr 2 (.tmp 1)), .none⟩, ⟨(.some 28), (.ld (.tmp 27)), .none⟩, ⟨(.some 29), (.call 29 23 [(.tmp 28)]), .none⟩, ⟨(.some 26), (.mov (.tmp 29)), .none⟩, ⟨(.some 30), (.ext (.tmp 26) 0), .none⟩, ⟨(.some 31), (.ext (.tmp 26) 1), .none⟩, ⟨(.some 7), (.mov (.tmp 30)), .none⟩, ⟨(.some 8), (.mov (.tmp 31)), .none⟩]) (.seq (.ops [⟨(.some 32), (.fadr 1 (.tmp 1)), .none⟩, ⟨(.some 33), (.ld (.tmp 32)), .none⟩, ⟨(.some 34), (.bin .eql (.tmp 33) (.const (.int .i64 2))), .none⟩, ⟨(.some 35), (.mov (.tmp 34)), .none⟩, ⟨(.some 36), (.mov (.tmp 8)), (.some (35, true))⟩, ⟨(.some 37), (.bin .eql (.tmp 36) (.const (.int .i64 0))), (.some (35, true))⟩, ⟨(.some 38), (.pick (.tmp 35) (.tmp 37) (.const (.bool false))), .none⟩]) (.cond (.tmp 38) (.seq (.seq (.ops [⟨(.some 39), (.mov (.tmp 7)), .none⟩, ⟨(.some 40), (.len (.tmp 39)), .none⟩, ⟨(.some 41), (.mov (.const (.int .i64 0))), .none⟩]) (.block 0 (.loop (.seq (.ops [⟨(.some 42), (.bin .lss (.tmp 41) (.tmp 40)), .none⟩]) (.seq (.cond (.tmp 42) .skip (.exit 0)) (.seq (.block 1 (.seq (.ops [⟨(.some 43), (.iadr 1 (.tmp 39) (.tmp 41)), .none⟩, ⟨(.some 44), (.ld (.tmp 43)), .none⟩, ⟨(.some 10), (.mov (.tmp 44)), .none⟩]) (.ops [⟨(.some 45), (.mov (.tmp 6)), .none⟩, ⟨(.some 46), (.mov (.tmp 10)), .none⟩, ⟨(.some 47), (.call 47 24 [(.tmp 46)]), .none⟩, ⟨(.some 48), (.lit 1 [(.tmp 47)]), .none⟩, ⟨(.some 49), (.app 49 1 16 (.tmp 45) (.tmp 48)), .none⟩, ⟨(.some 6), (.mov (.tmp 49)), .none⟩]))) (.ops [⟨(.some 50), (.bin .add (.tmp 41) (.const (.int .i64 1))), .none⟩, ⟨(.some 41), (.mov (.tmp 50)), .none⟩]))))))) (.seq (.ops [⟨(.some 51), (.mov (.tmp 3)), .none⟩, ⟨(.some 52), (.bin .add (.tmp 51) (.const (.string (strOfNums [58, 32])))), .none⟩, ⟨(.some 53), (.mov (.tmp 6)), .none⟩, ⟨(.some 54), (.call 54 25 [(.tmp 53), (.const (.string (strOfNums [32])))]), .none⟩, ⟨(.some 55), (.bin .add (.tmp 52) (.tmp 54)), .none⟩, ⟨(.some 2), (.mov (.tmp 55)), .none⟩]) .ret)) .skip))) (.seq (.seq (.ops [⟨(.some 56), (.fadr 2 (.tmp 1)), .none⟩, ⟨(.some 57), (.ld (.tmp 56)), .none⟩, ⟨(.some 58), (.len (.tmp 57)), .none⟩, ⟨(.some 59), (.mov (.const (.int .i64 0))), .none⟩]) (.block 2 (.loop (.seq (.ops [⟨(.some 60), (.bin .lss (.tmp 59) (.tmp 58)), .none⟩]) (.seq (.cond (.tmp 60) .skip (.exit 2)) (.seq (.block 3 (.seq (.ops [⟨(.some 61), (.iadr 1 (.tmp 57) (.tmp 59)), .none⟩, ⟨(.some 62), (.ld (.tmp 61)), .none⟩, ⟨(.some 12), (.mov (.tmp 62)), .none⟩]) (.ops [⟨(.some 63), (.mov (.tmp 6)), .none⟩, ⟨(.some 64), (.mov (.tmp 12)), .none⟩, ⟨(.some 65), (.fadr 1 (.tmp 1)), .none⟩, ⟨(.some 66), (.ld (.tmp 65)), .none⟩, ⟨(.some 67), (.call 67 26 [(.tmp 64), (.tmp 66)]), .none⟩, ⟨(.some 68), (.lit 1 [(.tmp 67)]), .none⟩, ⟨(.some 69), (.app 69 1 16 (.tmp 63) (.tmp 68)), .none⟩, ⟨(.some 6), (.mov (.tmp 69)), .none⟩]))) (.ops [⟨(.some 70), (.bin .add (.tmp 59) (.const (.int .i64 1))), .none⟩, ⟨(.some 59), (.mov (.tmp 70)), .none⟩]))))))) (.seq (.ops [⟨(.some 71), (.mov (.tmp 3)), .none⟩, ⟨(.some 72), (.bin .add (.tmp 71) (.const (.string (strOfNums [58, 32])))), .none⟩, ⟨(.some 73), (.mov (.tmp 6)), .none⟩, ⟨(.some 74), (.call 74 25 [(.tmp 73), (.const (.string (strOfNums [32])))]), .none⟩, ⟨(.some 75), (.bin .add (.tmp 72) (.tmp 74)), .none⟩, ⟨(.some 2), (.mov (.tmp 75)), .none⟩]) .ret))))))), [(2, .none)]⟩
theorem c12 : cmpF Tryd.prog [] [] 12 = some a12 := by kernel_rfl
/-- the tag's name -/
def nmL (t : Int) : List Int := if 0 ≤ ix (fun y => decide (y.1 = t)) ruls 0 then (fndR ruls (ix (fun y => decide (y.1 = t)) ruls 0)).2.1 else itL t
theorem names_l : ruls.all (fun y => decide (y.2.1.length ≤ 100)) = true := by decide +kernel
theorem nmL_le {t : Int} (h : 0 ≤ t ∧ t ≤ 65535) : (nmL t).length ≤ 100 := by
  unfold nmL
  split
  · rename_i h0
    rcases found (p := fun y => decide (y.1 = t)) (l := ruls) rfl with ⟨h1, h2⟩ | ⟨k, _, h1, h2, _⟩
    · exact absurd h0 h2
    · rw [h2]
      have hm : ruls.getD k ru0 ∈ ruls := by
        simp only [List.getD, List.getElem?_eq_getElem h1, Option.getD_some]
        exact List.getElem_mem _
      have := List.all_eq_true.1 names_l _ hm
      simpa using this
  · have := itL_le (z := t) (by omega) (by omega)
    omega
theorem find_nm (t : Int) : ∃ (y : Ru) (fb : Bool), Giv Tryd.prog 10 [.c (.int .u16 t)] (retV [.agg [.c (.int .u16 y.1), .c (.string (strOfNums y.2.1)), .lst 1 (li .i64 y.2.2.1), .c (.int .i64 y.2.2.2)], .c (.bool fb)]) ∧ nmL t = if fb then y.2.1 else itL t := by
  refine ⟨_, _, find_giv t, ?_⟩
  unfold nmL
  simp only [decide_eq_true_eq]
theorem joinS_le (c : Int) (q : List Int → List Int) (hq : ∀ s, (q s).length ≤ 10 * s.length + 2) : ∀ ss : List (List Int), (joinS c (ss.map q)).length ≤ 13 * tot ss
  | [] => Nat.zero_le _
  | [p] => by
    have := hq p
    simp only [List.map_cons, List.map_nil, joinS, tot]
    omega
  | p :: r :: ss => by
    have h1 := hq p
    have h2 := joinS_le c q hq (r :: ss)
    simp only [List.map_cons, joinS, tot, List.length_append, List.length_cons] at h2 ⊢
    omega
theorem mem_tot : ∀ (ss : List (List Int)) {b : List Int}, b ∈ ss → b.length ≤ tot ss
  | x :: ss, b, h => by
    rw [tot]
    rcases List.mem_cons.1 h with rfl | h
    · omega
    · have := mem_tot ss h
      omega
theorem len_tot : ∀ ss : List (List Int), ss.length ≤ tot ss
  | [] => Nat.le_refl _
  | x :: ss => by rw [tot, List.length_cons]; have := len_tot ss; omega
theorem getD_mem' {ss : List (List Int)} {k : Nat} (h : k < ss.length) : ss.getD k [] ∈ ss := by
  simp only [List.getD, List.getElem?_eq_getElem h, Option.getD_some]
  exact List.getElem_mem _
theorem sl_take {ss : List (List Int)} {q : List Int → List Int} {k : Nat} (h : k < ss.length) : sl ((ss.take (k + 1)).map q) = sl ((ss.take k).map q) ++ [D.c (.string (strOfNums (q (ss.getD k []))))] := by
  rw [sl_one, sl_app, List.take_succ_eq_append_getElem h, List.map_append]
  simp only [List.getD, List.getElem?_eq_getElem h, Option.getD_some, List.map_cons, List.map_nil]
theorem split_ok {l : List Int} (h1 : lowP l) (h2 : (spK l l.length).2 = []) : splitD l = [.lst 1 (sl (spK l l.length).1), .c (.int .i64 0)] := by
  rw [splitD, if_pos h1, if_pos h2]
theorem show_txt (t : Int) (ht : 0 ≤ t ∧ t ≤ 65535) (l : List Int) (hl : l.length ≤ 300) (hU : In 18446744073709551616 l) (h1 : lowP l) (h2 : (spK l l.length).2 = []) :
    Giv Tryd.prog 12 [.agg [.c (.int .u16 t), .c (.int .i64 2), .lst 1 (li .u64 l)]] (retV [.c (.string (strOfNums (nmL t ++ [58, 32] ++ joinS 32 ((spK l l.length).1.map qtL))))]) := by
  have hsp := split_giv l (by omega) hU
  rw [split_ok h1 h2] at hsp
  have hinv := (spK_inv (lenb hU h1) l.length (Nat.le_refl _)).1
  obtain ⟨ss, hss⟩ : ∃ ss, ss = (spK l l.length).1 := ⟨_, rfl⟩
  rw [← hss] at hsp hinv ⊢
  have htot : tot ss ≤ 300 := by omega
  have hlen := len_tot ss
  have hjl := joinS_le 32 qtL qtL_le ss
  have hjoin := join_giv 32 (ss.map qtL) (by rw [List.length_map]; omega) (by omega)
  have hsl := sl_len ss
  have hnl := nmL_le ht
  have hit := itz_giv t (by omega) (by omega)
  obtain ⟨y, fb, hfi, hnm⟩ := find_nm t
  obtain ⟨nm, hnn⟩ : ∃ nm, nm = nmL t := ⟨_, rfl⟩
  rw [← hnn] at hnl hnm ⊢
  obtain ⟨y1, y2, y3, y4⟩ := y
  dsimp only at hfi hnm
  obtain ⟨it, hite⟩ : ∃ it, it = itL t := ⟨_, rfl⟩
  rw [← hite] at hit hnm
  clear hite hnn
  refine Giv.of mixed c12 (Nat.le_of_ble_eq_true rfl) ?_
  simp -dsimp -implicitDefEqProofs (disch := first | omega | (simp only [List.length_append, List.length_cons, List.length_nil, List.length_take, List.length_drop]; omega)) only [a12, ↓aPre, aPost, oneW, allOne, retV, retVA, simprocAttr]
  refine call_giv hit ?_
  simp -dsimp -implicitDefEqProofs (disch := first | omega | (simp only [List.length_append, List.length_cons, List.length_nil, List.length_take, List.length_drop]; omega)) only [↓aPre, aPost, oneW, allOne, retV, retVA, simprocAttr]
  refine call_giv hfi ?_
  cases fb
  all_goals
    simp only [Bool.false_eq_true, ↓reduceIte] at hnm
    subst hnm
    simp -dsimp -implicitDefEqProofs (disch := first | omega | (simp only [List.length_append, List.length_cons, List.length_nil, List.length_take, List.length_drop]; omega)) only [↓aPre, aPost, oneW, allOne, retV, retVA, simprocAttr]
    refine call_giv hsp ?_
    simp -dsimp -implicitDefEqProofs (disch := first | omega | (simp only [List.length_append, List.length_cons, List.length_nil, List.length_take, List.length_drop]; omega)) only [hsl, ↓aPre, aPost, oneW, allOne, retV, retVA, simprocAttr]
    refine loop_nil 6 100 1 (fun s => ∃ (k : Nat), k ≤ ss.length ∧ s.tm 3 = .d (.c (.string (strOfNums nm))) ∧ s.tm 39 = .d (.lst 1 (sl ss)) ∧ s.tm 40 = .d (.c (.int .i64 ss.length)) ∧ s.tm 41 = .d (.c (.int .i64 k)) ∧ s.tm 6 = .sl 100 1 0 k ∧ s.hp 100 = some (.row 1 (sl ((ss.take k).map qtL)))) (fun s => ss.length - (avN (s.tm 41)).toNat) ?_ (by decide) ?_ ?_
    · simp -dsimp -implicitDefEqProofs (disch := first | omega | (simp only [List.length_append, List.length_cons, List.length_nil, List.length_take, List.length_drop]; omega)) only [↓aPre, aPost, oneW, allOne, retV, retVA, simprocAttr]
    · refine ⟨0, Nat.zero_le _, ?_⟩
      have e1 : sl [] = [] := rfl
      simp -dsimp -implicitDefEqProofs (disch := first | omega | (simp only [List.length_append, List.length_cons, List.length_nil, List.length_take, List.length_drop]; omega)) only [e1, Int.natCast_zero, ↓aPre, aPost, oneW, allOne, retV, retVA, simprocAttr]
    rintro s ⟨k, hk, hs⟩
    have hlk : (sl ((ss.take k).map qtL)).length = k := by rw [sl_len, List.length_map, List.length_take]; omega
    by_cases hlt : k < ss.length
    · have hm := mem_tot ss (getD_mem' hlt)
      have hq := quote_giv (ss.getD k []) (by omega)
      have hst := sl_take (q := qtL) hlt
      simp -dsimp -implicitDefEqProofs (disch := first | omega | (simp only [List.length_append, List.length_cons, List.length_nil, List.length_take, List.length_drop]; omega)) only [hs, hsl, sl_get, ↓aPre, aPost, oneW, allOne, retV, retVA, simprocAttr]
      refine call_giv hq ?_
      simp -dsimp -implicitDefEqProofs (disch := first | omega | (simp only [List.length_append, List.length_cons, List.length_nil, List.length_take, List.length_drop]; omega)) only [hs, hlk, ↓aPre, aPost, oneW, allOne, retV, retVA, simprocAttr]
      refine round_of ⟨k + 1, by omega, ?_⟩ ?_
      · simp -dsimp -implicitDefEqProofs (disch := first | omega | (simp only [List.length_append, List.length_cons, List.length_nil, List.length_take, List.length_drop]; omega)) only [hs, hlk, hst, ↓aPre, aPost, oneW, allOne, retV, retVA, simprocAttr]
      · simp -dsimp -implicitDefEqProofs (disch := first | omega | (simp only [List.length_append, List.length_cons, List.length_nil, List.length_take, List.length_drop]; omega)) only [hs, ↓aPre, aPost, oneW, allOne, retV, retVA, simprocAttr]
        omega
    · obtain rfl : k = ss.length := by omega
      rw [List.take_length] at hs hlk
      simp -dsimp -implicitDefEqProofs (disch := first | omega | (simp only [List.length_append, List.length_cons, List.length_nil, List.length_take, List.length_drop]; omega)) only [hs, hlk, ↓aPre, aPost, oneW, allOne, retV, retVA, simprocAttr]
      refine call_lend hjoin rfl ?_
      simp -dsimp -implicitDefEqProofs (disch := first | omega | (simp only [List.length_append, List.length_cons, List.length_nil, List.length_take, List.length_drop]; omega)) only [hs, ↓aPre, aPost, oneW, allOne, retV, retVA, simprocAttr]
      exact post_eq (by simp only [List.append_assoc])
theorem lives_name : nmL 305 = [83, 111, 102, 116, 119, 97, 114, 101] := by
  unfold nmL
  have h : ix (fun y => decide (y.1 = (305 : Int))) ruls 0 = 35 := by decide +kernel
  rw [h]
  decide +kernel
theorem lives_quote : qtL [97] = [34, 97, 34] := by decide +kernel
theorem lives_giv : Giv Tryd.prog 7 [] (retV [.c (.bool true)]) := by
  have h := show_txt 305 (by decide) [97, 0] (by decide) (fun z hz => by simp only [List.mem_cons, List.not_mem_nil, or_false] at hz; omega) (by decide) rfl
  have e1 : (spK [97, 0] ([97, 0] : List Int).length).1 = [[97]] := rfl
  rw [e1, lives_name] at h
  simp only [List.map_cons, List.map_nil, lives_quote, joinS] at h
  refine Giv.of mixed c7 (Nat.le_of_ble_eq_true rfl) ?_
  simp -dsimp -implicitDefEqProofs (disch := first | omega | (simp only [List.length_append, List.length_cons, List.length_nil, List.length_take, List.length_drop]; omega)) only [a7, ↓aPre, aPost, oneW, allOne, retV, retVA, simprocAttr]
  refine call_giv h ?_
  simp -dsimp -implicitDefEqProofs (disch := first | omega | (simp only [List.length_append, List.length_cons, List.length_nil, List.length_take, List.length_drop]; omega)) only [↓aPre, aPost, oneW, allOne, retV, retVA, simprocAttr]
  exact post_eq rfl
end Go.Proofs.YthbdglibakjfbaaDoor

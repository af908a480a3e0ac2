/- A field's text, of the program's, when it is no text: its values. The values' texts are a premise. A field's text, as the document writes it. The values' texts are a premise. A field's text, as the document writes it, when it is no text: its values. The values' texts are a premise. Whether a field is as its tag's rule says: the program's answer and the document's. No condition but what each says. Whether a field is as its tag's rule says: the document's answer. No condition but what it says. -/
import Derived.Test.YthbdglibakjfbaaDoorWShow
set_option linter.unusedSimpArgs false
set_option linter.unusedVariables false
set_option maxRecDepth 8000
set_option maxHeartbeats 4000000
set_option linter.unusedSectionVars false
namespace Go.Proofs.YthbdglibakjfbaaDoor
open Go.Eng Go.RowKit
variable [Inhabited Lo]
theorem li_mem {l : List Int} {k : Nat} (h : k < l.length) : l.getD k 0 ∈ l := by
  simp only [List.getD, List.getElem?_eq_getElem h, Option.getD_some]
  exact List.getElem_mem _
theorem getD_elem {l : List Int} {q : Nat} (h : q < l.length) : l[q] = l.getD q 0 := by
  simp only [List.getD, List.getElem?_eq_getElem h, Option.getD_some]
theorem sl_take2 {l : List Int} {q : Int → List Int} {k : Nat} (h : k < l.length) : sl ((l.take (k + 1)).map q) = sl ((l.take k).map q) ++ [D.c (.string (strOfNums (q (l.getD k 0))))] := by
  rw [sl_one, sl_app, List.take_succ_eq_append_getElem h, List.map_append]
  simp only [List.getD, List.getElem?_eq_getElem h, Option.getD_some, List.map_cons, List.map_nil]
theorem joinS_le2 (c : Int) (q : Int → List Int) : ∀ l : List Int, (∀ v ∈ l, (q v).length ≤ 100) → (joinS c (l.map q)).length ≤ 101 * l.length
  | [], _ => Nat.zero_le _
  | [p], h => by
    have := h p (.head _)
    simp only [List.map_cons, List.map_nil, joinS, List.length_cons, List.length_nil]
    omega
  | p :: r :: ss, h => by
    have h1 := h p (.head _)
    have h2 := joinS_le2 c q (r :: ss) fun v hv => h v (.tail _ hv)
    simp only [List.map_cons, joinS, List.length_append, List.length_cons] at h2 ⊢
    omega
/-- what is split off is told by two words -/
theorem split_is (l : List Int) : (lowP l ∧ (spK l l.length).2 = [] ∧ splitD l = [.lst 1 (sl (spK l l.length).1), .c (.int .i64 0)]) ∨ (¬ (lowP l ∧ (spK l l.length).2 = []) ∧ ∃ e : Int, ¬ e = 0 ∧ (e = 2 ∨ e = 3) ∧ splitD l = [.lst 1 [], .c (.int .i64 e)]) := by
  unfold splitD
  by_cases h1 : lowP l
  · by_cases h2 : (spK l l.length).2 = []
    · exact .inl ⟨h1, h2, by rw [if_pos h1, if_pos h2]⟩
    · exact .inr ⟨fun h => h2 h.2, 2, by decide, .inl rfl, by rw [if_pos h1, if_neg h2]⟩
  · exact .inr ⟨fun h => h1 h.1, 3, by decide, .inr rfl, by rw [if_neg h1]⟩
theorem show_val (q : Int → List Int) (t : Int) (ht : 0 ≤ t ∧ t ≤ 65535) (kd : Int) (l : List Int) (hl : l.length ≤ 300) (hU : In 18446744073709551616 l) (hn : ¬ (kd = 2 ∧ lowP l ∧ (spK l l.length).2 = []))
    (hq : ∀ v ∈ l, (q v).length ≤ 100 ∧ Giv Tryd.prog 26 [.c (.int .u64 v), .c (.int .i64 kd)] (retV [.c (.string (strOfNums (q v)))])) :
    Giv Tryd.prog 12 [.agg [.c (.int .u16 t), .c (.int .i64 kd), .lst 1 (li .u64 l)]] (retV [.c (.string (strOfNums (nmL t ++ [58, 32] ++ joinS 32 (l.map q))))]) := by
  have hsp := split_giv l (by omega) hU
  obtain ⟨d, e, hde, hor⟩ : ∃ (d : List D) (e : Int), splitD l = [.lst 1 d, .c (.int .i64 e)] ∧ (¬ kd = 2 ∨ kd = 2 ∧ ¬ e = 0) := by
    rcases split_is l with ⟨h1, h2, h3⟩ | ⟨h1, e, h2, _, h3⟩
    · exact ⟨_, _, h3, .inl fun h => hn ⟨h, h1, h2⟩⟩
    · exact ⟨_, _, h3, (Classical.em (kd = 2)).elim (fun h => .inr ⟨h, h2⟩) .inl⟩
  rw [hde] at hsp
  have hjl := joinS_le2 32 q l fun v hv => (hq v hv).1
  have hjoin := join_giv 32 (l.map q) (by rw [List.length_map]; omega) (by omega)
  have hnl := nmL_le ht
  have hit := itz_giv t (by omega) (by omega)
  obtain ⟨y, fb, hfi, hnm⟩ := find_nm t
  obtain ⟨nm, hnn⟩ : ∃ nm, nm = nmL t := ⟨_, rfl⟩
  rw [← hnn] at hnl hnm ⊢
  obtain ⟨y1, y2, y3, y4⟩ := y
  dsimp only at hfi hnm
  obtain ⟨it, hite⟩ : ∃ it, it = itL t := ⟨_, rfl⟩
  rw [← hite] at hit hnm
  clear hite hnn hn hde
  refine Giv.of mixed c12 (Nat.le_of_ble_eq_true rfl) ?_
  simp -dsimp -implicitDefEqProofs (disch := first | omega | (simp only [List.length_append, List.length_cons, List.length_nil, List.length_take, List.length_drop]; omega)) only [a12, ↓aPre, aPost, oneW, allOne, retV, retVA, simprocAttr]
  refine call_giv hit ?_
  simp -dsimp -implicitDefEqProofs (disch := first | omega | (simp only [List.length_append, List.length_cons, List.length_nil, List.length_take, List.length_drop]; omega)) only [↓aPre, aPost, oneW, allOne, retV, retVA, simprocAttr]
  refine call_giv hfi ?_
  cases fb
  all_goals
    simp only [Bool.false_eq_true, ↓reduceIte] at hnm
    subst hnm
    simp -dsimp -implicitDefEqProofs (disch := first | omega | (simp only [List.length_append, List.length_cons, List.length_nil, List.length_take, List.length_drop]; omega)) only [↓aPre, aPost, oneW, allOne, retV, retVA, simprocAttr]
    refine call_giv hsp ?_
    obtain hb | hb : ((kd == 2) = false ∧ decide (kd = 2) = false) ∨ (((kd == 2) = true ∧ decide (kd = 2) = true) ∧ (e == 0) = false ∧ decide (e = 0) = false) := hor.imp (fun h => ⟨ibeq_f h, decide_eq_false h⟩) fun h => ⟨⟨ibeq_t h.1, decide_eq_true h.1⟩, ibeq_f h.2, decide_eq_false h.2⟩
    all_goals
      simp -dsimp -implicitDefEqProofs (disch := first | omega | (simp only [List.length_append, List.length_cons, List.length_nil, List.length_take, List.length_drop]; omega)) only [hb, ↓aPre, aPost, oneW, allOne, retV, retVA, simprocAttr]
      refine loop_nil 6 100 1 (fun s => ∃ (k : Nat), k ≤ l.length ∧ s.tm 1 = .ptr 1 0 ∧ s.tm 3 = .d (.c (.string (strOfNums nm))) ∧ s.tm 57 = .d (.lst 1 (li .u64 l)) ∧ s.tm 58 = .d (.c (.int .i64 l.length)) ∧ s.tm 59 = .d (.c (.int .i64 k)) ∧ s.hp 1 = some (.box [.d (.c (.int .u16 t)), .d (.c (.int .i64 kd)), .d (.lst 1 (li .u64 l))]) ∧ s.tm 6 = .sl 100 1 0 k ∧ s.hp 100 = some (.row 1 (sl ((l.take k).map q)))) (fun s => l.length - (avN (s.tm 59)).toNat) ?_ (by decide) ?_ ?_
      · simp -dsimp -implicitDefEqProofs (disch := first | omega | (simp only [List.length_append, List.length_cons, List.length_nil, List.length_take, List.length_drop]; omega)) only [↓aPre, aPost, oneW, allOne, retV, retVA, simprocAttr]
      · refine ⟨0, Nat.zero_le _, ?_⟩
        have e1 : sl [] = [] := rfl
        simp -dsimp -implicitDefEqProofs (disch := first | omega | (simp only [List.length_append, List.length_cons, List.length_nil, List.length_take, List.length_drop]; omega)) only [e1, Int.natCast_zero, ↓aPre, aPost, oneW, allOne, retV, retVA, simprocAttr]
      rintro s ⟨k, hk, hs⟩
      have hlk : (sl ((l.take k).map q)).length = k := by rw [sl_len, List.length_map, List.length_take]; omega
      by_cases hlt : k < l.length
      · have hz := hU.get (by decide) k
        have hqk := (hq _ (li_mem hlt)).2
        have hst := sl_take2 (q := q) hlt
        simp -dsimp -implicitDefEqProofs (disch := first | omega | (simp only [List.length_append, List.length_cons, List.length_nil, List.length_take, List.length_drop]; omega)) only [hs, ↓aPre, aPost, oneW, allOne, retV, retVA, simprocAttr]
        refine call_giv hqk ?_
        simp -dsimp -implicitDefEqProofs (disch := first | omega | (simp only [List.length_append, List.length_cons, List.length_nil, List.length_take, List.length_drop]; omega)) only [hs, hlk, ↓aPre, aPost, oneW, allOne, retV, retVA, simprocAttr]
        refine round_of ⟨k + 1, by omega, ?_⟩ ?_
        · simp -dsimp -implicitDefEqProofs (disch := first | omega | (simp only [List.length_append, List.length_cons, List.length_nil, List.length_take, List.length_drop]; omega)) only [hs, hlk, hst, ↓aPre, aPost, oneW, allOne, retV, retVA, simprocAttr]
        · simp -dsimp -implicitDefEqProofs (disch := first | omega | (simp only [List.length_append, List.length_cons, List.length_nil, List.length_take, List.length_drop]; omega)) only [hs, ↓aPre, aPost, oneW, allOne, retV, retVA, simprocAttr]
          omega
      · obtain rfl : k = l.length := by omega
        rw [List.take_length] at hs hlk
        simp -dsimp -implicitDefEqProofs (disch := first | omega | (simp only [List.length_append, List.length_cons, List.length_nil, List.length_take, List.length_drop]; omega)) only [hs, hlk, ↓aPre, aPost, oneW, allOne, retV, retVA, simprocAttr]
        refine call_lend hjoin rfl ?_
        simp -dsimp -implicitDefEqProofs (disch := first | omega | (simp only [List.length_append, List.length_cons, List.length_nil, List.length_take, List.length_drop]; omega)) only [hs, ↓aPre, aPost, oneW, allOne, retV, retVA, simprocAttr]
        exact post_eq (by simp only [List.append_assoc])
end Go.Proofs.YthbdglibakjfbaaDoor
namespace Go.Proofs.YthbdglibakjfbaaDoor
open Go.Eng Go.RowKit
variable [Inhabited Lo]
def a13 : AFn := ⟨74, (.seq (.ops [⟨(.some 1), (.box 1 3 (.tmp 0)), .none⟩, ⟨(.some 2), (.mov (.const (.string (strOfNums [])))), .none⟩]) (.seq (.ops [⟨(.some 10), (.fadr 0 (.tmp 1)), .none⟩, ⟨(.some 11), (.ld (.tmp 10)), .none⟩, ⟨(.some 12), (.cvI .i64 (.tmp 11)), .none⟩, ⟨(.some 13), (.call 13 22 [(.tmp 12)]), .none⟩, ⟨(.some 14), (.bin .add (.tmp 13) (.const (.string (strOfNums [58, 32])))), .none⟩, ⟨(.some 3), (.mov (.tmp 14)), .none⟩]) (.seq (.seq (.ops [⟨(.some 15), (.fadr 0 (.tmp 1)), .none⟩, ⟨(.some 16), (.ld (.tmp 15)), .none⟩, ⟨(.some 17), (.cvI .i64 (.tmp 16)), .none⟩, ⟨(.some 18), (.call 18 11 [(.tmp 17)]), .none⟩, ⟨(.some 4), (.mov (.tmp 18)), .none⟩]) (.seq (.ops [⟨(.some 19), (.mov (.tmp 4)), .none⟩, ⟨(.some 20), (.bin .geq (.tmp 19) (.const (.int .i64 0))), .none⟩]) (.cond (.tmp 20) (.ops [⟨(.some 21), (.call 21 6 []), .none⟩, ⟨(.some 22), (.mov (.tmp 4)), .none⟩, ⟨(.some 23), (.iadr 4 (.tmp 21) (.tmp 22)), .none⟩, ⟨(.some 24), (.fadr 1 (.tmp 23)), .none⟩, ⟨(.some 25), (.ld (.tmp 24)), .none⟩, ⟨(.some 26), (.bin .add (.tmp 25) (.const (.string (strOfNums [58, 32])))), .none⟩, ⟨(.some 3), (.mov (.tmp 26)), .none⟩]) .skip))) (.seq (.ops [⟨(.some 28), (.fadr 2 (.tmp 1)), .none⟩, ⟨(.some 29), (.ld (.tmp 28)), .none⟩, ⟨(.some 30), (.call 30 27 [(.tmp 29)]), .none⟩, ⟨(.some 27), (.mov (.tmp 30)), .none⟩, ⟨(.some 31), (.ext (.tmp 27) 0), .none⟩, ⟨(.some 32), (.ext (.tmp 27) 1), .none⟩, ⟨(.some 5), (.mov (.tmp 31)), .none⟩, ⟨(.some 6), (.mov (.tmp 32)), .none⟩]) (.seq (.ops [⟨(.some 33), (.fadr 2 (.tmp 1)), .none⟩, ⟨(.some 34), (.ld (.tmp 33)), .none⟩, ⟨(.some 35), (.len (.tmp 34)), .none⟩, ⟨(.some 7), (.mov (.tmp 35)), .none⟩]) (.seq (.ops [⟨(.some 36), (.fadr 1 (.tmp 1)), .none⟩, ⟨(.some 37), (.ld (.tmp 36)), .none⟩, ⟨(.some 38), (.bin .eql (.tmp 37) (.const (.int .i64 2))), .none⟩, ⟨(.some 39), (.mov (.tmp 38)), .none⟩, ⟨(.some 40), (.mov (.tmp 6)), (.some (39, true))⟩, ⟨(.some 41), (.bin .eql (.tmp 40) (.const (.int .i64 0))), (.some (39, true))⟩, ⟨(.some 42), (.pick (.tmp 39) (.tmp 41) (.const (.bool false))), .none⟩, ⟨(.some 8), (.mov (.tmp 42)), .none⟩]) (.seq (.seq (.ops [⟨(.some 43), (.mov (.tmp 8)), .none⟩]) (.cond (.tmp 43) (.ops [⟨(.some 44), (.mov (.tmp 5)), .none⟩, ⟨(.some 45), (.len (.tmp 44)), .none⟩, ⟨(.some 7), (.mov (.tmp 45)), .none⟩]) .skip)) (.seq (.seq (.ops [⟨(.some 9), (.mov (.const (.int .i64 0))), .none⟩]) (.block 0 (.loop (.seq (.seq (.ops [⟨(.some 46), (.mov (.tmp 9)), .none⟩, ⟨(.some 47), (.mov (.tmp 7)), .none⟩, ⟨(.some 48), (.bin .lss (.tmp 46) (.tmp 47)), .none⟩]) (.cond (.tmp 48) .skip (.exit 0))) (.seq (.block 1 (.seq (.seq (.ops [⟨(.some 51), (.mov (.tmp 9)), .none⟩, ⟨(.some 52), (.bin .gtr (.tmp 51) (.const (.int .i64 0))), .none⟩]) (.cond (.tmp 52) (.ops [⟨(.some 53), (.mov (.tmp 3)), .none⟩, ⟨(.some 54), (.bin .add (.tmp 53) (.const (.string (strOfNums [32])))), .none⟩, ⟨(.some 3), (.mov (.tmp 54)), .none⟩]) .skip)) (.seq (.ops [⟨(.some 55), (.mov (.tmp 8)), .none⟩]) (.cond (.tmp 55) (.ops [⟨(.some 56), (.mov (.tmp 3)), .none⟩, ⟨(.some 57), (.mov (.tmp 5)), .none⟩, ⟨(.some 58), (.mov (.tmp 9)), .none⟩, ⟨(.some 59), (.iadr 1 (.tmp 57) (.tmp 58)), .none⟩, ⟨(.some 60), (.ld (.tmp 59)), .none⟩, ⟨(.some 61), (.call 61 24 [(.tmp 60)]), .none⟩, ⟨(.some 62), (.bin .add (.tmp 56) (.tmp 61)), .none⟩, ⟨(.some 3), (.mov (.tmp 62)), .none⟩]) (.draw [(⟨(.some 63), (.mov (.tmp 3)), .none⟩, (false, [])), (⟨(.some 64), (.fadr 2 (.tmp 1)), .none⟩, (false, [])), (⟨(.some 65), (.ld (.tmp 64)), .none⟩, (false, [])), (⟨(.some 66), (.mov (.tmp 9)), .none⟩, (false, [])), (⟨(.some 67), (.iadr 1 (.tmp 65) (.tmp 66)), .none⟩, (false, [])), (⟨(.some 68), (.ld (.tmp 67)), .none⟩, (false, [])), (⟨(.some 69), (.fadr 1 (.tmp 1)), .none⟩, (false, [])), (⟨(.some 70), (.ld (.tmp 69)), .none⟩, (false, [])), (⟨(.some 71), (.call 71 28 [(.tmp 68), (.tmp 70)]), .none⟩, (false, [1])), (⟨(.some 72), (.bin .add (.tmp 63) (.tmp 71)), .none⟩, (false, [])), (⟨(.some 3), (.mov (.tmp 72)), .none⟩, (false, []))]))))) (.ops [⟨(.some 49), (.mov (.tmp 9)), .none⟩, ⟨(.some 50), (.bin .add (.tmp 49) (.const (.int .i64 1))), .none⟩, ⟨(.some 9), (.mov (.tmp 50)), .none⟩])))))) (.seq (.ops [⟨(.some 73), (.mov (.tmp 3)), .none⟩, ⟨(.some 2), (.mov (.tmp 73)), .none⟩]) .ret))))))))), [(2, .none)]⟩
theorem c13 : cmpF Tryd.prog [] [] 13 = some a13 := by kernel_rfl
theorem joinS_app (c : Int) (x : List Int) : ∀ L : List (List Int), L ≠ [] → joinS c (L ++ [x]) = joinS c L ++ c :: x
  | [p], _ => rfl
  | p :: q :: r, _ => by
    have := joinS_app c x (q :: r) (by simp)
    simp only [List.cons_append] at this ⊢
    rw [joinS, this, joinS]
    simp
theorem join_zero {α : Type} (c : Int) (q : α → List Int) (l : List α) : joinS c ((l.take 0).map q) = [] := rfl
theorem join_first {α : Type} (c : Int) (q : α → List Int) {l : List α} {x : α} (h : 0 < l.length) (hx : l[0] = x) : joinS c ((l.take (0 + 1)).map q) = q x := by
  rw [List.take_succ_eq_append_getElem h, hx]
  rfl
theorem join_next {α : Type} (c : Int) (q : α → List Int) {l : List α} {k : Nat} {x : α} (h : k < l.length) (hx : l[k] = x) (h0 : 0 < k) : joinS c ((l.take (k + 1)).map q) = joinS c ((l.take k).map q) ++ c :: q x := by
  rw [List.take_succ_eq_append_getElem h, hx, List.map_append, List.map_cons, List.map_nil, joinS_app]
  intro e
  have := congrArg List.length e
  simp only [List.length_map, List.length_take, List.length_nil] at this
  omega
theorem getD_at {α : Type} {l : List α} {k : Nat} {d : α} (h : k < l.length) : l[k] = l.getD k d := by
  simp only [List.getD, List.getElem?_eq_getElem h, Option.getD_some]
theorem tot_take : ∀ (ss : List (List Int)) (k : Nat), tot (ss.take k) ≤ tot ss
  | [], k => by simp
  | b :: ss, 0 => Nat.zero_le _
  | b :: ss, k + 1 => by
    have := tot_take ss k
    simp only [List.take_succ_cons, tot]
    omega
theorem rfind_nm (t : Int) : ∃ I : Int, Giv Tryd.prog 11 [.c (.int .i64 t)] (retV [.c (.int .i64 I)]) ∧ (¬ 0 ≤ I ∧ nmL t = itL t ∨ ∃ k : Nat, I = k ∧ k < 55 ∧ nmL t = (ruls.getD k ru0).2.1) := by
  refine ⟨_, rfind_giv t, ?_⟩
  unfold nmL
  obtain ⟨I, hI⟩ : ∃ I, I = ix (fun y => decide (y.1 = t)) ruls 0 := ⟨_, rfl⟩
  rw [← hI]
  rcases found hI with ⟨h1, h2⟩ | ⟨k, e, h1, h2, _⟩
  · exact .inl ⟨h2, by rw [if_neg h2]⟩
  · exact .inr ⟨k, e, by rw [ruls_len] at h1; exact h1, by rw [if_pos (by omega), h2]⟩
theorem rshow_txt (t : Int) (ht : 0 ≤ t ∧ t ≤ 65535) (l : List Int) (hl : l.length ≤ 300) (hU : In 18446744073709551616 l) (h1 : lowP l) (h2 : (spK l l.length).2 = []) :
    Giv Tryd.prog 13 [.agg [.c (.int .u16 t), .c (.int .i64 2), .lst 1 (li .u64 l)]] (retV [.c (.string (strOfNums (nmL t ++ [58, 32] ++ joinS 32 ((spK l l.length).1.map qtL))))]) := by
  have hsp := rsplit_giv l (by omega) hU
  rw [split_ok h1 h2] at hsp
  have hinv := (spK_inv (lenb hU h1) l.length (Nat.le_refl _)).1
  obtain ⟨ss, hss⟩ : ∃ ss, ss = (spK l l.length).1 := ⟨_, rfl⟩
  rw [← hss] at hsp hinv ⊢
  have htot : tot ss ≤ 300 := by omega
  have hlen := len_tot ss
  have hsl := sl_len ss
  have hnl := nmL_le ht
  have hit := itz_giv t (by omega) (by omega)
  obtain ⟨I, hfi, hnm⟩ := rfind_nm t
  have hrr := rrsD_len ruls
  have hr55 := ruls_len
  obtain ⟨nm, hnn⟩ : ∃ nm, nm = nmL t := ⟨_, rfl⟩
  rw [← hnn] at hnl hnm ⊢
  obtain ⟨it, hite⟩ : ∃ it, it = itL t := ⟨_, rfl⟩
  have hitl := itL_le (z := t) (by omega) (by omega)
  rw [← hite] at hit hnm hitl
  clear hite hnn
  have hJ : ∀ k, (joinS 32 ((ss.take k).map qtL)).length ≤ 3900 := fun k => by
    have := joinS_le 32 qtL qtL_le (ss.take k)
    have := tot_take ss k
    omega
  refine Giv.of mixed c13 (Nat.le_of_ble_eq_true rfl) ?_
  simp -dsimp -implicitDefEqProofs (disch := first | omega | (simp only [List.length_append, List.length_cons, List.length_nil, List.length_take, List.length_drop]; omega)) only [a13, ↓aPre, aPost, oneW, allOne, retV, retVA, simprocAttr]
  refine call_giv hit ?_
  simp -dsimp -implicitDefEqProofs (disch := first | omega | (simp only [List.length_append, List.length_cons, List.length_nil, List.length_take, List.length_drop]; omega)) only [↓aPre, aPost, oneW, allOne, retV, retVA, simprocAttr]
  refine call_giv hfi ?_
  have hE : (¬ 0 ≤ I ∧ nm = it) ∨ ∃ y : Ru, ∃ k : Nat, I = k ∧ k < 55 ∧ y.2.1 = nm ∧ ruls.getD k ru0 = y := hnm.imp id fun ⟨k, e1, e2, e3⟩ => ⟨_, k, e1, e2, e3.symm, rfl⟩
  rcases hE with ⟨h4, h5⟩ | ⟨⟨y1, y2, y3, y4⟩, k, rfl, h4, h5, h6⟩
  · subst h5
    simp -dsimp -implicitDefEqProofs (disch := first | omega | (simp only [List.length_append, List.length_cons, List.length_nil, List.length_take, List.length_drop]; omega)) only [h4, ↓aPre, aPost, oneW, allOne, retV, retVA, simprocAttr]
    refine call_giv hsp ?_
    simp -dsimp -implicitDefEqProofs (disch := first | omega | (simp only [List.length_append, List.length_cons, List.length_nil, List.length_take, List.length_drop]; omega)) only [hsl, ↓aPre, aPost, oneW, allOne, retV, retVA, simprocAttr]
    refine loop_of (fun s => ∃ (k : Nat), k ≤ ss.length ∧ s.tm 3 = .d (.c (.string (strOfNums (nm ++ [58, 32] ++ joinS 32 ((ss.take k).map qtL))))) ∧ s.tm 5 = .d (.lst 1 (sl ss)) ∧ s.tm 7 = .d (.c (.int .i64 ss.length)) ∧ s.tm 8 = .d (.c (.bool true)) ∧ s.tm 9 = .d (.c (.int .i64 k))) (fun s => ss.length - (avN (s.tm 9)).toNat) ?_ ?_
    · refine ⟨0, Nat.zero_le _, ?_⟩
      have e0 : joinS 32 [] = [] := rfl
      simp -dsimp -implicitDefEqProofs (disch := first | omega | (simp only [List.length_append, List.length_cons, List.length_nil, List.length_take, List.length_drop]; omega)) only [Int.natCast_zero, e0, List.append_nil, ↓aPre, aPost, oneW, allOne, retV, retVA, simprocAttr]
    rintro s ⟨j, hj, hs⟩
    have hJj := hJ j
    by_cases hlt : j < ss.length
    · have hm := mem_tot ss (getD_mem' hlt)
      have hq := quote_giv (ss.getD j []) (by omega)
      have hql := qtL_le (ss.getD j [])
      rcases Nat.eq_zero_or_pos j with rfl | h0
      · have hF := join_first 32 qtL hlt (getD_at (d := []) hlt)
        have e0 : joinS 32 [] = [] := rfl
        simp -dsimp -implicitDefEqProofs (disch := first | omega | (simp only [List.length_append, List.length_cons, List.length_nil, List.length_take, List.length_drop]; omega)) only [hs, hsl, sl_get, Int.natCast_zero, ↓aPre, aPost, oneW, allOne, retV, retVA, simprocAttr]
        refine call_giv hq ?_
        simp -dsimp -implicitDefEqProofs (disch := first | omega | (simp only [List.length_append, List.length_cons, List.length_nil, List.length_take, List.length_drop]; omega)) only [hs, Int.natCast_zero, e0, List.append_nil, ↓aPre, aPost, oneW, allOne, retV, retVA, simprocAttr]
        refine round_of ⟨0 + 1, by omega, ?_⟩ ?_
        · rw [hF]
          simp -dsimp -implicitDefEqProofs (disch := first | omega | (simp only [List.length_append, List.length_cons, List.length_nil, List.length_take, List.length_drop]; omega)) only [hs, Int.natCast_zero, e0, List.append_nil, ↓aPre, aPost, oneW, allOne, retV, retVA, simprocAttr]
        · simp -dsimp -implicitDefEqProofs (disch := first | omega | (simp only [List.length_append, List.length_cons, List.length_nil, List.length_take, List.length_drop]; omega)) only [hs, ↓aPre, aPost, oneW, allOne, retV, retVA, simprocAttr]
          omega
      · have hF := join_next 32 qtL hlt (getD_at (d := []) hlt) h0
        simp -dsimp -implicitDefEqProofs (disch := first | omega | (simp only [List.length_append, List.length_cons, List.length_nil, List.length_take, List.length_drop]; omega)) only [hs, hsl, sl_get, ↓aPre, aPost, oneW, allOne, retV, retVA, simprocAttr]
        refine call_giv hq ?_
        simp -dsimp -implicitDefEqProofs (disch := first | omega | (simp only [List.length_append, List.length_cons, List.length_nil, List.length_take, List.length_drop]; omega)) only [hs, ↓aPre, aPost, oneW, allOne, retV, retVA, simprocAttr]
        refine round_of ⟨j + 1, by omega, ?_⟩ ?_
        · rw [hF]
          simp -dsimp -implicitDefEqProofs (disch := first | omega | (simp only [List.length_append, List.length_cons, List.length_nil, List.length_take, List.length_drop]; omega)) only [hs, ↓aPre, aPost, oneW, allOne, retV, retVA, simprocAttr]
          simp only [List.append_assoc, List.cons_append, List.nil_append]
        · simp -dsimp -implicitDefEqProofs (disch := first | omega | (simp only [List.length_append, List.length_cons, List.length_nil, List.length_take, List.length_drop]; omega)) only [hs, ↓aPre, aPost, oneW, allOne, retV, retVA, simprocAttr]
          omega
    · obtain rfl : j = ss.length := by omega
      rw [List.take_length] at hs
      simp -dsimp -implicitDefEqProofs (disch := first | omega | (simp only [List.length_append, List.length_cons, List.length_nil, List.length_take, List.length_drop]; omega)) only [hs, ↓aPre, aPost, oneW, allOne, retV, retVA, simprocAttr]
      exact post_eq rfl
  · have h4' : k < ruls.length := by omega
    have hg := rrsD_get h4'
    rw [h6] at hg
    dsimp only at hg h5
    have h5' := h5.symm
    clear h5
    subst h5'
    simp -dsimp -implicitDefEqProofs (disch := first | omega | (simp only [List.length_append, List.length_cons, List.length_nil, List.length_take, List.length_drop]; omega)) only [↓aPre, aPost, oneW, allOne, retV, retVA, simprocAttr]
    refine call_giv rr_giv ?_
    simp -dsimp -implicitDefEqProofs (disch := first | omega | (simp only [List.length_append, List.length_cons, List.length_nil, List.length_take, List.length_drop]; omega)) only [hrr, hr55, hg, ↓aPre, aPost, oneW, allOne, retV, retVA, simprocAttr]
    refine call_giv hsp ?_
    simp -dsimp -implicitDefEqProofs (disch := first | omega | (simp only [List.length_append, List.length_cons, List.length_nil, List.length_take, List.length_drop]; omega)) only [hsl, ↓aPre, aPost, oneW, allOne, retV, retVA, simprocAttr]
    refine loop_of (fun s => ∃ (k : Nat), k ≤ ss.length ∧ s.tm 3 = .d (.c (.string (strOfNums (nm ++ [58, 32] ++ joinS 32 ((ss.take k).map qtL))))) ∧ s.tm 5 = .d (.lst 1 (sl ss)) ∧ s.tm 7 = .d (.c (.int .i64 ss.length)) ∧ s.tm 8 = .d (.c (.bool true)) ∧ s.tm 9 = .d (.c (.int .i64 k))) (fun s => ss.length - (avN (s.tm 9)).toNat) ?_ ?_
    · refine ⟨0, Nat.zero_le _, ?_⟩
      have e0 : joinS 32 [] = [] := rfl
      simp -dsimp -implicitDefEqProofs (disch := first | omega | (simp only [List.length_append, List.length_cons, List.length_nil, List.length_take, List.length_drop]; omega)) only [Int.natCast_zero, e0, List.append_nil, ↓aPre, aPost, oneW, allOne, retV, retVA, simprocAttr]
    rintro s ⟨j, hj, hs⟩
    have hJj := hJ j
    by_cases hlt : j < ss.length
    · have hm := mem_tot ss (getD_mem' hlt)
      have hq := quote_giv (ss.getD j []) (by omega)
      have hql := qtL_le (ss.getD j [])
      rcases Nat.eq_zero_or_pos j with rfl | h0
      · have hF := join_first 32 qtL hlt (getD_at (d := []) hlt)
        have e0 : joinS 32 [] = [] := rfl
        simp -dsimp -implicitDefEqProofs (disch := first | omega | (simp only [List.length_append, List.length_cons, List.length_nil, List.length_take, List.length_drop]; omega)) only [hs, hsl, sl_get, Int.natCast_zero, ↓aPre, aPost, oneW, allOne, retV, retVA, simprocAttr]
        refine call_giv hq ?_
        simp -dsimp -implicitDefEqProofs (disch := first | omega | (simp only [List.length_append, List.length_cons, List.length_nil, List.length_take, List.length_drop]; omega)) only [hs, Int.natCast_zero, e0, List.append_nil, ↓aPre, aPost, oneW, allOne, retV, retVA, simprocAttr]
        refine round_of ⟨0 + 1, by omega, ?_⟩ ?_
        · rw [hF]
          simp -dsimp -implicitDefEqProofs (disch := first | omega | (simp only [List.length_append, List.length_cons, List.length_nil, List.length_take, List.length_drop]; omega)) only [hs, Int.natCast_zero, e0, List.append_nil, ↓aPre, aPost, oneW, allOne, retV, retVA, simprocAttr]
        · simp -dsimp -implicitDefEqProofs (disch := first | omega | (simp only [List.length_append, List.length_cons, List.length_nil, List.length_take, List.length_drop]; omega)) only [hs, ↓aPre, aPost, oneW, allOne, retV, retVA, simprocAttr]
          omega
      · have hF := join_next 32 qtL hlt (getD_at (d := []) hlt) h0
        simp -dsimp -implicitDefEqProofs (disch := first | omega | (simp only [List.length_append, List.length_cons, List.length_nil, List.length_take, List.length_drop]; omega)) only [hs, hsl, sl_get, ↓aPre, aPost, oneW, allOne, retV, retVA, simprocAttr]
        refine call_giv hq ?_
        simp -dsimp -implicitDefEqProofs (disch := first | omega | (simp only [List.length_append, List.length_cons, List.length_nil, List.length_take, List.length_drop]; omega)) only [hs, ↓aPre, aPost, oneW, allOne, retV, retVA, simprocAttr]
        refine round_of ⟨j + 1, by omega, ?_⟩ ?_
        · rw [hF]
          simp -dsimp -implicitDefEqProofs (disch := first | omega | (simp only [List.length_append, List.length_cons, List.length_nil, List.length_take, List.length_drop]; omega)) only [hs, ↓aPre, aPost, oneW, allOne, retV, retVA, simprocAttr]
          simp only [List.append_assoc, List.cons_append, List.nil_append]
        · simp -dsimp -implicitDefEqProofs (disch := first | omega | (simp only [List.length_append, List.length_cons, List.length_nil, List.length_take, List.length_drop]; omega)) only [hs, ↓aPre, aPost, oneW, allOne, retV, retVA, simprocAttr]
          omega
    · obtain rfl : j = ss.length := by omega
      rw [List.take_length] at hs
      simp -dsimp -implicitDefEqProofs (disch := first | omega | (simp only [List.length_append, List.length_cons, List.length_nil, List.length_take, List.length_drop]; omega)) only [hs, ↓aPre, aPost, oneW, allOne, retV, retVA, simprocAttr]
      exact post_eq rfl
end Go.Proofs.YthbdglibakjfbaaDoor
namespace Go.Proofs.YthbdglibakjfbaaDoor
open Go.Eng Go.RowKit
variable [Inhabited Lo]
theorem rshow_val (q : Int → List Int) (t : Int) (ht : 0 ≤ t ∧ t ≤ 65535) (kd : Int) (l : List Int) (hl : l.length ≤ 300) (hU : In 18446744073709551616 l) (hn : ¬ (kd = 2 ∧ lowP l ∧ (spK l l.length).2 = []))
    (hq : ∀ v ∈ l, (q v).length ≤ 100 ∧ Giv Tryd.prog 28 [.c (.int .u64 v), .c (.int .i64 kd)] (retV [.c (.string (strOfNums (q v)))])) :
    Giv Tryd.prog 13 [.agg [.c (.int .u16 t), .c (.int .i64 kd), .lst 1 (li .u64 l)]] (retV [.c (.string (strOfNums (nmL t ++ [58, 32] ++ joinS 32 (l.map q))))]) := by
  have hsp := rsplit_giv l (by omega) hU
  obtain ⟨d, e, hde, hor⟩ : ∃ (d : List D) (e : Int), splitD l = [.lst 1 d, .c (.int .i64 e)] ∧ (¬ kd = 2 ∨ kd = 2 ∧ ¬ e = 0) := by
    rcases split_is l with ⟨h1, h2, h3⟩ | ⟨h1, e, h2, _, h3⟩
    · exact ⟨_, _, h3, .inl fun h => hn ⟨h, h1, h2⟩⟩
    · exact ⟨_, _, h3, (Classical.em (kd = 2)).elim (fun h => .inr ⟨h, h2⟩) .inl⟩
  rw [hde] at hsp
  have hll := li_length (k := .u64) (l := l)
  have hnl := nmL_le ht
  have hit := itz_giv t (by omega) (by omega)
  obtain ⟨I, hfi, hnm⟩ := rfind_nm t
  have hrr := rrsD_len ruls
  have hr55 := ruls_len
  obtain ⟨nm, hnn⟩ : ∃ nm, nm = nmL t := ⟨_, rfl⟩
  rw [← hnn] at hnl hnm ⊢
  obtain ⟨it, hite⟩ : ∃ it, it = itL t := ⟨_, rfl⟩
  have hitl := itL_le (z := t) (by omega) (by omega)
  rw [← hite] at hit hnm hitl
  clear hite hnn hde hn
  have hJ : ∀ k, (joinS 32 ((l.take k).map q)).length ≤ 30300 := fun k => by
    have := joinS_le2 32 q (l.take k) fun v hv => (hq v (List.mem_of_mem_take hv)).1
    rw [List.length_take] at this
    omega
  have hkb : ((kd == 2) = false ∧ decide (kd = 2) = false) ∨ (((kd == 2) = true ∧ decide (kd = 2) = true) ∧ (e == 0) = false ∧ decide (e = 0) = false) := hor.imp (fun h => ⟨ibeq_f h, decide_eq_false h⟩) fun h => ⟨⟨ibeq_t h.1, decide_eq_true h.1⟩, ibeq_f h.2, decide_eq_false h.2⟩
  clear hor
  refine Giv.of mixed c13 (Nat.le_of_ble_eq_true rfl) ?_
  simp -dsimp -implicitDefEqProofs (disch := first | omega | (simp only [List.length_append, List.length_cons, List.length_nil, List.length_take, List.length_drop]; omega)) only [a13, ↓aPre, aPost, oneW, allOne, retV, retVA, simprocAttr]
  refine call_giv hit ?_
  simp -dsimp -implicitDefEqProofs (disch := first | omega | (simp only [List.length_append, List.length_cons, List.length_nil, List.length_take, List.length_drop]; omega)) only [↓aPre, aPost, oneW, allOne, retV, retVA, simprocAttr]
  refine call_giv hfi ?_
  have hE : (¬ 0 ≤ I ∧ nm = it) ∨ ∃ y : Ru, ∃ k : Nat, I = k ∧ k < 55 ∧ y.2.1 = nm ∧ ruls.getD k ru0 = y := hnm.imp id fun ⟨k, e1, e2, e3⟩ => ⟨_, k, e1, e2, e3.symm, rfl⟩
  rcases hE with ⟨h4, h5⟩ | ⟨⟨y1, y2, y3, y4⟩, k, rfl, h4, h5, h6⟩
  · subst h5
    simp -dsimp -implicitDefEqProofs (disch := first | omega | (simp only [List.length_append, List.length_cons, List.length_nil, List.length_take, List.length_drop]; omega)) only [h4, ↓aPre, aPost, oneW, allOne, retV, retVA, simprocAttr]
    refine call_giv hsp ?_
    rcases hkb with hb | hb
    all_goals
      simp -dsimp -implicitDefEqProofs (disch := first | omega | (simp only [List.length_append, List.length_cons, List.length_nil, List.length_take, List.length_drop]; omega)) only [hll, hb, ↓aPre, aPost, oneW, allOne, retV, retVA, simprocAttr]
      refine loop_of (fun s => ∃ (k : Nat), k ≤ l.length ∧ s.tm 1 = .ptr 1 0 ∧ s.hp 1 = some (.box [.d (.c (.int .u16 t)), .d (.c (.int .i64 kd)), .d (.lst 1 (li .u64 l))]) ∧ s.tm 3 = .d (.c (.string (strOfNums (nm ++ [58, 32] ++ joinS 32 ((l.take k).map q))))) ∧ s.tm 7 = .d (.c (.int .i64 l.length)) ∧ s.tm 8 = .d (.c (.bool false)) ∧ s.tm 9 = .d (.c (.int .i64 k))) (fun s => l.length - (avN (s.tm 9)).toNat) ?_ ?_
      · refine ⟨0, Nat.zero_le _, ?_⟩
        have e0 : joinS 32 [] = [] := rfl
        simp -dsimp -implicitDefEqProofs (disch := first | omega | (simp only [List.length_append, List.length_cons, List.length_nil, List.length_take, List.length_drop]; omega)) only [Int.natCast_zero, e0, List.append_nil, ↓aPre, aPost, oneW, allOne, retV, retVA, simprocAttr]
      rintro s ⟨j, hj, hs⟩
      have hJj := hJ j
      by_cases hlt : j < l.length
      · have hz := hU.get (by decide) j
        obtain ⟨hql, hqk⟩ := hq _ (li_mem hlt)
        rcases Nat.eq_zero_or_pos j with rfl | h0
        · have hF := join_first 32 q hlt (getD_at (d := 0) hlt)
          have e0 : joinS 32 [] = [] := rfl
          simp -dsimp -implicitDefEqProofs (disch := first | omega | (simp only [List.length_append, List.length_cons, List.length_nil, List.length_take, List.length_drop]; omega)) only [hs, hll, li_getD, Int.natCast_zero, ↓aPre, aPost, oneW, allOne, retV, retVA, simprocAttr]
          refine call_giv hqk ?_
          simp -dsimp -implicitDefEqProofs (disch := first | omega | (simp only [List.length_append, List.length_cons, List.length_nil, List.length_take, List.length_drop]; omega)) only [hs, Int.natCast_zero, e0, List.append_nil, ↓aPre, aPost, oneW, allOne, retV, retVA, simprocAttr]
          refine round_of ⟨0 + 1, by omega, ?_⟩ ?_
          · rw [hF]
            simp -dsimp -implicitDefEqProofs (disch := first | omega | (simp only [List.length_append, List.length_cons, List.length_nil, List.length_take, List.length_drop]; omega)) only [hs, Int.natCast_zero, e0, List.append_nil, ↓aPre, aPost, oneW, allOne, retV, retVA, simprocAttr]
          · simp -dsimp -implicitDefEqProofs (disch := first | omega | (simp only [List.length_append, List.length_cons, List.length_nil, List.length_take, List.length_drop]; omega)) only [hs, ↓aPre, aPost, oneW, allOne, retV, retVA, simprocAttr]
            omega
        · have hF := join_next 32 q hlt (getD_at (d := 0) hlt) h0
          simp -dsimp -implicitDefEqProofs (disch := first | omega | (simp only [List.length_append, List.length_cons, List.length_nil, List.length_take, List.length_drop]; omega)) only [hs, hll, li_getD, ↓aPre, aPost, oneW, allOne, retV, retVA, simprocAttr]
          refine call_giv hqk ?_
          simp -dsimp -implicitDefEqProofs (disch := first | omega | (simp only [List.length_append, List.length_cons, List.length_nil, List.length_take, List.length_drop]; omega)) only [hs, ↓aPre, aPost, oneW, allOne, retV, retVA, simprocAttr]
          refine round_of ⟨j + 1, by omega, ?_⟩ ?_
          · rw [hF]
            simp -dsimp -implicitDefEqProofs (disch := first | omega | (simp only [List.length_append, List.length_cons, List.length_nil, List.length_take, List.length_drop]; omega)) only [hs, ↓aPre, aPost, oneW, allOne, retV, retVA, simprocAttr]
            simp only [List.append_assoc, List.cons_append, List.nil_append]
          · simp -dsimp -implicitDefEqProofs (disch := first | omega | (simp only [List.length_append, List.length_cons, List.length_nil, List.length_take, List.length_drop]; omega)) only [hs, ↓aPre, aPost, oneW, allOne, retV, retVA, simprocAttr]
            omega
      · obtain rfl : j = l.length := by omega
        rw [List.take_length] at hs
        simp -dsimp -implicitDefEqProofs (disch := first | omega | (simp only [List.length_append, List.length_cons, List.length_nil, List.length_take, List.length_drop]; omega)) only [hs, ↓aPre, aPost, oneW, allOne, retV, retVA, simprocAttr]
        exact post_eq rfl
  · have h4' : k < ruls.length := by omega
    have hg := rrsD_get h4'
    rw [h6] at hg
    dsimp only at hg h5
    have h5' := h5.symm
    clear h5
    subst h5'
    simp -dsimp -implicitDefEqProofs (disch := first | omega | (simp only [List.length_append, List.length_cons, List.length_nil, List.length_take, List.length_drop]; omega)) only [↓aPre, aPost, oneW, allOne, retV, retVA, simprocAttr]
    refine call_giv rr_giv ?_
    simp -dsimp -implicitDefEqProofs (disch := first | omega | (simp only [List.length_append, List.length_cons, List.length_nil, List.length_take, List.length_drop]; omega)) only [hrr, hr55, hg, ↓aPre, aPost, oneW, allOne, retV, retVA, simprocAttr]
    refine call_giv hsp ?_
    rcases hkb with hb | hb
    all_goals
      simp -dsimp -implicitDefEqProofs (disch := first | omega | (simp only [List.length_append, List.length_cons, List.length_nil, List.length_take, List.length_drop]; omega)) only [hll, hb, ↓aPre, aPost, oneW, allOne, retV, retVA, simprocAttr]
      refine loop_of (fun s => ∃ (k : Nat), k ≤ l.length ∧ s.tm 1 = .ptr 1 0 ∧ s.hp 1 = some (.box [.d (.c (.int .u16 t)), .d (.c (.int .i64 kd)), .d (.lst 1 (li .u64 l))]) ∧ s.tm 3 = .d (.c (.string (strOfNums (nm ++ [58, 32] ++ joinS 32 ((l.take k).map q))))) ∧ s.tm 7 = .d (.c (.int .i64 l.length)) ∧ s.tm 8 = .d (.c (.bool false)) ∧ s.tm 9 = .d (.c (.int .i64 k))) (fun s => l.length - (avN (s.tm 9)).toNat) ?_ ?_
      · refine ⟨0, Nat.zero_le _, ?_⟩
        have e0 : joinS 32 [] = [] := rfl
        simp -dsimp -implicitDefEqProofs (disch := first | omega | (simp only [List.length_append, List.length_cons, List.length_nil, List.length_take, List.length_drop]; omega)) only [Int.natCast_zero, e0, List.append_nil, ↓aPre, aPost, oneW, allOne, retV, retVA, simprocAttr]
      rintro s ⟨j, hj, hs⟩
      have hJj := hJ j
      by_cases hlt : j < l.length
      · have hz := hU.get (by decide) j
        obtain ⟨hql, hqk⟩ := hq _ (li_mem hlt)
        rcases Nat.eq_zero_or_pos j with rfl | h0
        · have hF := join_first 32 q hlt (getD_at (d := 0) hlt)
          have e0 : joinS 32 [] = [] := rfl
          simp -dsimp -implicitDefEqProofs (disch := first | omega | (simp only [List.length_append, List.length_cons, List.length_nil, List.length_take, List.length_drop]; omega)) only [hs, hll, li_getD, Int.natCast_zero, ↓aPre, aPost, oneW, allOne, retV, retVA, simprocAttr]
          refine call_giv hqk ?_
          simp -dsimp -implicitDefEqProofs (disch := first | omega | (simp only [List.length_append, List.length_cons, List.length_nil, List.length_take, List.length_drop]; omega)) only [hs, Int.natCast_zero, e0, List.append_nil, ↓aPre, aPost, oneW, allOne, retV, retVA, simprocAttr]
          refine round_of ⟨0 + 1, by omega, ?_⟩ ?_
          · rw [hF]
            simp -dsimp -implicitDefEqProofs (disch := first | omega | (simp only [List.length_append, List.length_cons, List.length_nil, List.length_take, List.length_drop]; omega)) only [hs, Int.natCast_zero, e0, List.append_nil, ↓aPre, aPost, oneW, allOne, retV, retVA, simprocAttr]
          · simp -dsimp -implicitDefEqProofs (disch := first | omega | (simp only [List.length_append, List.length_cons, List.length_nil, List.length_take, List.length_drop]; omega)) only [hs, ↓aPre, aPost, oneW, allOne, retV, retVA, simprocAttr]
            omega
        · have hF := join_next 32 q hlt (getD_at (d := 0) hlt) h0
          simp -dsimp -implicitDefEqProofs (disch := first | omega | (simp only [List.length_append, List.length_cons, List.length_nil, List.length_take, List.length_drop]; omega)) only [hs, hll, li_getD, ↓aPre, aPost, oneW, allOne, retV, retVA, simprocAttr]
          refine call_giv hqk ?_
          simp -dsimp -implicitDefEqProofs (disch := first | omega | (simp only [List.length_append, List.length_cons, List.length_nil, List.length_take, List.length_drop]; omega)) only [hs, ↓aPre, aPost, oneW, allOne, retV, retVA, simprocAttr]
          refine round_of ⟨j + 1, by omega, ?_⟩ ?_
          · rw [hF]
            simp -dsimp -implicitDefEqProofs (disch := first | omega | (simp only [List.length_append, List.length_cons, List.length_nil, List.length_take, List.length_drop]; omega)) only [hs, ↓aPre, aPost, oneW, allOne, retV, retVA, simprocAttr]
            simp only [List.append_assoc, List.cons_append, List.nil_append]
          · simp -dsimp -implicitDefEqProofs (disch := first | omega | (simp only [List.length_append, List.length_cons, List.length_nil, List.length_take, List.length_drop]; omega)) only [hs, ↓aPre, aPost, oneW, allOne, retV, retVA, simprocAttr]
            omega
      · obtain rfl : j = l.length := by omega
        rw [List.take_length] at hs
        simp -dsimp -implicitDefEqProofs (disch := first | omega | (simp only [List.length_append, List.length_cons, List.length_nil, List.length_take, List.length_drop]; omega)) only [hs, ↓aPre, aPost, oneW, allOne, retV, retVA, simprocAttr]
        exact post_eq rfl
end Go.Proofs.YthbdglibakjfbaaDoor
namespace Go.Proofs.YthbdglibakjfbaaDoor
open Go.Eng Go.RowKit
variable [Inhabited Lo]
def a14 : AFn := ⟨52, (.seq (.ops [⟨(.some 1), (.box 1 3 (.tmp 0)), .none⟩, ⟨(.some 2), (.mov (.const (.int .i64 0))), .none⟩]) (.seq (.ops [⟨(.some 8), (.fadr 0 (.tmp 1)), .none⟩, ⟨(.some 9), (.ld (.tmp 8)), .none⟩, ⟨(.some 10), (.call 10 10 [(.tmp 9)]), .none⟩, ⟨(.some 7), (.mov (.tmp 10)), .none⟩, ⟨(.some 11), (.ext (.tmp 7) 0), .none⟩, ⟨(.some 12), (.ext (.tmp 7) 1), .none⟩, ⟨(.some 3), (.alloc 3 [(.int .u16 0), (.string (strOfNums [])), (.slice .none 0 0), (.int .i64 0)]), .none⟩, ⟨.none, (.st 4 (.tmp 3) (.tmp 11)), .none⟩, ⟨(.some 4), (.mov (.tmp 12)), .none⟩]) (.seq (.block 0 (.seq (.ops [⟨(.some 14), (.mov (.tmp 4)), .none⟩, ⟨(.some 15), (.un .not (.tmp 14)), .none⟩, ⟨(.some 13), (.mov (.tmp 15)), .none⟩]) (.cond (.tmp 13) (.seq (.ops [⟨(.some 2), (.mov (.const (.int .i64 12))), .none⟩]) .ret) (.seq (.ops [⟨(.some 17), (.fadr 2 (.tmp 3)), .none⟩, ⟨(.some 18), (.ld (.tmp 17)), .none⟩, ⟨(.some 19), (.fadr 1 (.tmp 1)), .none⟩, ⟨(.some 20), (.ld (.tmp 19)), .none⟩, ⟨(.some 21), (.call 21 29 [(.tmp 18), (.tmp 20)]), .none⟩, ⟨(.some 22), (.un .not (.tmp 21)), .none⟩, ⟨(.some 16), (.mov (.tmp 22)), .none⟩]) (.cond (.tmp 16) (.seq (.ops [⟨(.some 2), (.mov (.const (.int .i64 3))), .none⟩]) .ret) (.seq (.ops [⟨(.some 24), (.fadr 3 (.tmp 3)), .none⟩, ⟨(.some 25), (.ld (.tmp 24)), .none⟩, ⟨(.some 26), (.bin .gtr (.tmp 25) (.const (.int .i64 0))), .none⟩, ⟨(.some 27), (.mov (.tmp 26)), .none⟩, ⟨(.some 28), (.fadr 2 (.tmp 1)), (.some (27, true))⟩, ⟨(.some 29), (.ld (.tmp 28)), (.some (27, true))⟩, ⟨(.some 30), (.len (.tmp 29)), (.some (27, true))⟩, ⟨(.some 31), (.fadr 3 (.tmp 3)), (.some (27, true))⟩, ⟨(.some 32), (.ld (.tmp 31)), (.some (27, true))⟩, ⟨(.some 33), (.bin .neq (.tmp 30) (.tmp 32)), (.some (27, true))⟩, ⟨(.some 34), (.pick (.tmp 27) (.tmp 33) (.const (.bool false))), .none⟩, ⟨(.some 35), (.mov (.tmp 34)), .none⟩, ⟨(.some 36), (.fadr 2 (.tmp 1)), (.some (35, false))⟩, ⟨(.some 37), (.ld (.tmp 36)), (.some (35, false))⟩, ⟨(.some 38), (.len (.tmp 37)), (.some (35, false))⟩, ⟨(.some 39), (.bin .eql (.tmp 38) (.const (.int .i64 0))), (.some (35, false))⟩, ⟨(.some 40), (.pick (.tmp 35) (.const (.bool true)) (.tmp 39)), .none⟩, ⟨(.some 23), (.mov (.tmp 40)), .none⟩]) (.cond (.tmp 23) (.seq (.ops [⟨(.some 2), (.mov (.const (.int .i64 5))), .none⟩]) .ret) (.seq (.ops [⟨(.some 42), (.fadr 2 (.tmp 3)), .none⟩, ⟨(.some 43), (.ld (.tmp 42)), .none⟩, ⟨(.some 44), (.call 44 29 [(.tmp 43), (.const (.int .i64 2))]), .none⟩, ⟨(.some 41), (.mov (.tmp 44)), .none⟩]) (.cond (.tmp 41) (.seq (.ops [⟨(.some 46), (.fadr 2 (.tmp 1)), .none⟩, ⟨(.some 47), (.ld (.tmp 46)), .none⟩, ⟨(.some 48), (.call 48 23 [(.tmp 47)]), .none⟩, ⟨(.some 45), (.mov (.tmp 48)), .none⟩, ⟨(.some 49), (.ext (.tmp 45) 0), .none⟩, ⟨(.some 50), (.ext (.tmp 45) 1), .none⟩, ⟨(.some 5), (.mov (.tmp 49)), .none⟩, ⟨(.some 6), (.mov (.tmp 50)), .none⟩]) (.seq (.ops [⟨(.some 51), (.mov (.tmp 6)), .none⟩, ⟨(.some 2), (.mov (.tmp 51)), .none⟩]) .ret)) .skip))))))))) (.seq (.ops [⟨(.some 2), (.mov (.const (.int .i64 0))), .none⟩]) .ret)))), [(2, .none)]⟩
theorem c14 : cmpF Tryd.prog [] [] 14 = some a14 := by kernel_rfl
def a15 : AFn := ⟨66, (.seq (.ops [⟨(.some 1), (.box 1 3 (.tmp 0)), .none⟩, ⟨(.some 2), (.mov (.const (.int .i64 0))), .none⟩]) (.seq (.ops [⟨(.some 9), (.fadr 0 (.tmp 1)), .none⟩, ⟨(.some 10), (.ld (.tmp 9)), .none⟩, ⟨(.some 11), (.cvI .i64 (.tmp 10)), .none⟩, ⟨(.some 12), (.call 12 11 [(.tmp 11)]), .none⟩, ⟨(.some 3), (.mov (.tmp 12)), .none⟩]) (.seq (.seq (.ops [⟨(.some 13), (.mov (.tmp 3)), .none⟩, ⟨(.some 14), (.bin .lss (.tmp 13) (.const (.int .i64 0))), .none⟩]) (.cond (.tmp 14) (.seq (.ops [⟨(.some 2), (.mov (.const (.int .i64 12))), .none⟩]) .ret) .skip)) (.seq (.ops [⟨(.some 15), (.call 15 6 []), .none⟩, ⟨(.some 16), (.mov (.tmp 3)), .none⟩, ⟨(.some 17), (.iadr 4 (.tmp 15) (.tmp 16)), .none⟩, ⟨(.some 18), (.ldn 4 (.tmp 17)), .none⟩, ⟨(.some 4), (.alloc 4 [(.int .i64 0), (.string (strOfNums [])), (.slice .none 0 0), (.int .i64 0)]), .none⟩, ⟨.none, (.st 4 (.tmp 4) (.tmp 18)), .none⟩]) (.seq (.ops [⟨(.some 5), (.mov (.const (.bool false))), .none⟩]) (.seq (.seq (.ops [⟨(.some 6), (.mov (.const (.int .i64 0))), .none⟩]) (.block 0 (.loop (.seq (.seq (.ops [⟨(.some 19), (.mov (.tmp 6)), .none⟩, ⟨(.some 20), (.fadr 2 (.tmp 4)), .none⟩, ⟨(.some 21), (.ld (.tmp 20)), .none⟩, ⟨(.some 22), (.len (.tmp 21)), .none⟩, ⟨(.some 23), (.bin .lss (.tmp 19) (.tmp 22)), .none⟩]) (.cond (.tmp 23) .skip (.exit 0))) (.seq (.block 1 (.draw [(⟨(.some 26), (.mov (.tmp 5)), .none⟩, (false, [])), (⟨(.some 27), (.mov (.tmp 26)), .none⟩, (false, [])), (⟨(.some 28), (.fadr 2 (.tmp 4)), (.some (27, false))⟩, (false, [])), (⟨(.some 29), (.ld (.tmp 28)), (.some (27, false))⟩, (false, [])), (⟨(.some 30), (.mov (.tmp 6)), (.some (27, false))⟩, (false, [])), (⟨(.some 31), (.iadr 1 (.tmp 29) (.tmp 30)), (.some (27, false))⟩, (false, [])), (⟨(.some 32), (.ld (.tmp 31)), (.some (27, false))⟩, (false, [])), (⟨(.some 33), (.fadr 1 (.tmp 1)), (.some (27, false))⟩, (false, [])), (⟨(.some 34), (.ld (.tmp 33)), (.some (27, false))⟩, (false, [])), (⟨(.some 35), (.bin .eql (.tmp 32) (.tmp 34)), (.some (27, false))⟩, (false, [])), (⟨(.some 36), (.pick (.tmp 27) (.const (.bool true)) (.tmp 35)), .none⟩, (false, [])), (⟨(.some 5), (.mov (.tmp 36)), .none⟩, (false, []))])) (.ops [⟨(.some 24), (.mov (.tmp 6)), .none⟩, ⟨(.some 25), (.bin .add (.tmp 24) (.const (.int .i64 1))), .none⟩, ⟨(.some 6), (.mov (.tmp 25)), .none⟩])))))) (.seq (.seq (.ops [⟨(.some 37), (.mov (.tmp 5)), .none⟩, ⟨(.some 38), (.un .not (.tmp 37)), .none⟩]) (.cond (.tmp 38) (.seq (.ops [⟨(.some 2), (.mov (.const (.int .i64 3))), .none⟩]) .ret) .skip)) (.seq (.seq (.ops [⟨(.some 39), (.fadr 2 (.tmp 1)), .none⟩, ⟨(.some 40), (.ld (.tmp 39)), .none⟩, ⟨(.some 41), (.len (.tmp 40)), .none⟩, ⟨(.some 42), (.bin .eql (.tmp 41) (.const (.int .i64 0))), .none⟩, ⟨(.some 43), (.mov (.tmp 42)), .none⟩, ⟨(.some 44), (.fadr 3 (.tmp 4)), (.some (43, false))⟩, ⟨(.some 45), (.ld (.tmp 44)), (.some (43, false))⟩, ⟨(.some 46), (.bin .gtr (.tmp 45) (.const (.int .i64 0))), (.some (43, false))⟩, ⟨(.some 47), (.mov (.tmp 46)), (.some (43, false))⟩, ⟨(.some 48), (.fadr 2 (.tmp 1)), (.some (47, true))⟩, ⟨(.some 49), (.ld (.tmp 48)), (.some (47, true))⟩, ⟨(.some 50), (.len (.tmp 49)), (.some (47, true))⟩, ⟨(.some 51), (.fadr 3 (.tmp 4)), (.some (47, true))⟩, ⟨(.some 52), (.ld (.tmp 51)), (.some (47, true))⟩, ⟨(.some 53), (.bin .neq (.tmp 50) (.tmp 52)), (.some (47, true))⟩, ⟨(.some 54), (.pick (.tmp 47) (.tmp 53) (.const (.bool false))), (.some (43, false))⟩, ⟨(.some 55), (.pick (.tmp 43) (.const (.bool true)) (.tmp 54)), .none⟩]) (.cond (.tmp 55) (.seq (.ops [⟨(.some 2), (.mov (.const (.int .i64 5))), .none⟩]) .ret) .skip)) (.seq (.seq (.ops [⟨(.some 56), (.fadr 1 (.tmp 1)), .none⟩, ⟨(.some 57), (.ld (.tmp 56)), .none⟩, ⟨(.some 58), (.bin .eql (.tmp 57) (.const (.int .i64 2))), .none⟩]) (.cond (.tmp 58) (.seq (.ops [⟨(.some 60), (.fadr 2 (.tmp 1)), .none⟩, ⟨(.some 61), (.ld (.tmp 60)), .none⟩, ⟨(.some 62), (.call 62 27 [(.tmp 61)]), .none⟩, ⟨(.some 59), (.mov (.tmp 62)), .none⟩, ⟨(.some 63), (.ext (.tmp 59) 0), .none⟩, ⟨(.some 64), (.ext (.tmp 59) 1), .none⟩, ⟨(.some 7), (.mov (.tmp 63)), .none⟩, ⟨(.some 8), (.mov (.tmp 64)), .none⟩]) (.seq (.ops [⟨(.some 65), (.mov (.tmp 8)), .none⟩, ⟨(.some 2), (.mov (.tmp 65)), .none⟩]) .ret)) .skip)) (.seq (.ops [⟨(.some 2), (.mov (.const (.int .i64 0))), .none⟩]) .ret)))))))))), [(2, .none)]⟩
theorem c15 : cmpF Tryd.prog [] [] 15 = some a15 := by kernel_rfl
theorem index_giv (ks : List Int) (hk : ks.length ≤ 1000) (x : Int) : ∃ I : Int, (0 ≤ I ↔ x ∈ ks) ∧ Giv Tryd.prog 46 [.lst 1 (li .i64 ks), .c (.int .i64 x)] (retV [.c (.int .i64 I)]) := by
  have hlk := li_length (k := .i64) (l := ks)
  by_cases hx : ∃ k, k < ks.length ∧ (∀ j, j < k → ¬ ks.getD j 0 = x) ∧ ks.getD k 0 = x
  · obtain ⟨k, h1, h2, h3⟩ := hx
    refine ⟨k, ⟨fun _ => by rw [← h3]; exact li_mem h1, fun _ => by omega⟩, ?_⟩
    refine Giv.of mixed c46 (Nat.le_of_ble_eq_true rfl) ?_
    simp -dsimp -implicitDefEqProofs (disch := first | omega | (simp only [List.length_append, List.length_cons, List.length_nil, List.length_take, List.length_drop]; omega)) only [a46, hlk, ↓aPre, aPost, oneW, allOne, retV, retVA, simprocAttr]
    refine loop_of (fun s => ∃ (j : Nat), j ≤ k ∧ s.tm 0 = .d (.lst 1 (li .i64 ks)) ∧ s.tm 1 = .d (.c (.int .i64 x)) ∧ s.tm 7 = .d (.c (.int .i64 ks.length)) ∧ s.tm 8 = .d (.c (.int .i64 j))) (fun s => k - (avN (s.tm 8)).toNat) ?_ ?_
    · refine ⟨0, Nat.zero_le _, ?_⟩
      simp -dsimp -implicitDefEqProofs (disch := first | omega | (simp only [List.length_append, List.length_cons, List.length_nil, List.length_take, List.length_drop]; omega)) only [Int.natCast_zero, ↓aPre, aPost, oneW, allOne, retV, retVA, simprocAttr]
    rintro s ⟨j, hj, hs⟩
    by_cases hlt : j < k
    · have hne : ¬ x = ks.getD j 0 := fun e => h2 j hlt e.symm
      simp -dsimp -implicitDefEqProofs (disch := first | omega | (simp only [List.length_append, List.length_cons, List.length_nil, List.length_take, List.length_drop]; omega)) only [hs, hlk, li_getD, ibeq_f hne, ↓aPre, aPost, oneW, allOne, retV, retVA, simprocAttr]
      refine round_of ⟨j + 1, by omega, ?_⟩ ?_
      · simp -dsimp -implicitDefEqProofs (disch := first | omega | (simp only [List.length_append, List.length_cons, List.length_nil, List.length_take, List.length_drop]; omega)) only [hs, ↓aPre, aPost, oneW, allOne, retV, retVA, simprocAttr]
      · simp -dsimp -implicitDefEqProofs (disch := first | omega | (simp only [List.length_append, List.length_cons, List.length_nil, List.length_take, List.length_drop]; omega)) only [hs, ↓aPre, aPost, oneW, allOne, retV, retVA, simprocAttr]
        omega
    · obtain rfl : j = k := by omega
      simp -dsimp -implicitDefEqProofs (disch := first | omega | (simp only [List.length_append, List.length_cons, List.length_nil, List.length_take, List.length_drop]; omega)) only [hs, hlk, li_getD, ibeq_t h3.symm, ↓aPre, aPost, oneW, allOne, retV, retVA, simprocAttr]
      exact post_eq rfl
  · have hno : ∀ j, j < ks.length → ¬ ks.getD j 0 = x := by
      intro j
      induction j using Nat.strongRecOn with
      | _ j ih => exact fun hj he => hx ⟨j, hj, fun i hi => ih i hi (by omega), he⟩
    refine ⟨-1, ⟨fun h => absurd h (by decide), fun h => ?_⟩, ?_⟩
    · obtain ⟨j, hj, e⟩ := List.getElem_of_mem h
      exact absurd (by rw [getD_elem hj] at e; exact e) (hno j hj)
    refine Giv.of mixed c46 (Nat.le_of_ble_eq_true rfl) ?_
    simp -dsimp -implicitDefEqProofs (disch := first | omega | (simp only [List.length_append, List.length_cons, List.length_nil, List.length_take, List.length_drop]; omega)) only [a46, hlk, ↓aPre, aPost, oneW, allOne, retV, retVA, simprocAttr]
    refine loop_of (fun s => ∃ (j : Nat), j ≤ ks.length ∧ s.tm 0 = .d (.lst 1 (li .i64 ks)) ∧ s.tm 1 = .d (.c (.int .i64 x)) ∧ s.tm 7 = .d (.c (.int .i64 ks.length)) ∧ s.tm 8 = .d (.c (.int .i64 j))) (fun s => ks.length - (avN (s.tm 8)).toNat) ?_ ?_
    · refine ⟨0, Nat.zero_le _, ?_⟩
      simp -dsimp -implicitDefEqProofs (disch := first | omega | (simp only [List.length_append, List.length_cons, List.length_nil, List.length_take, List.length_drop]; omega)) only [Int.natCast_zero, ↓aPre, aPost, oneW, allOne, retV, retVA, simprocAttr]
    rintro s ⟨j, hj, hs⟩
    by_cases hlt : j < ks.length
    · have hne : ¬ x = ks.getD j 0 := fun e => hno j hlt e.symm
      simp -dsimp -implicitDefEqProofs (disch := first | omega | (simp only [List.length_append, List.length_cons, List.length_nil, List.length_take, List.length_drop]; omega)) only [hs, hlk, li_getD, ibeq_f hne, ↓aPre, aPost, oneW, allOne, retV, retVA, simprocAttr]
      refine round_of ⟨j + 1, by omega, ?_⟩ ?_
      · simp -dsimp -implicitDefEqProofs (disch := first | omega | (simp only [List.length_append, List.length_cons, List.length_nil, List.length_take, List.length_drop]; omega)) only [hs, ↓aPre, aPost, oneW, allOne, retV, retVA, simprocAttr]
      · simp -dsimp -implicitDefEqProofs (disch := first | omega | (simp only [List.length_append, List.length_cons, List.length_nil, List.length_take, List.length_drop]; omega)) only [hs, ↓aPre, aPost, oneW, allOne, retV, retVA, simprocAttr]
        omega
    · simp -dsimp -implicitDefEqProofs (disch := first | omega | (simp only [List.length_append, List.length_cons, List.length_nil, List.length_take, List.length_drop]; omega)) only [hs, ↓aPre, aPost, oneW, allOne, retV, retVA, simprocAttr]
      exact post_eq rfl
theorem contains_giv (ks : List Int) (hk : ks.length ≤ 1000) (x : Int) : Giv Tryd.prog 29 [.lst 1 (li .i64 ks), .c (.int .i64 x)] (retV [.c (.bool (decide (x ∈ ks)))]) := by
  obtain ⟨I, hI, h⟩ := index_giv ks hk x
  refine Giv.of mixed c29 (Nat.le_of_ble_eq_true rfl) ?_
  simp -dsimp -implicitDefEqProofs (disch := first | omega | (simp only [List.length_append, List.length_cons, List.length_nil, List.length_take, List.length_drop]; omega)) only [a29, ↓aPre, aPost, oneW, allOne, retV, retVA, simprocAttr]
  refine call_giv h ?_
  by_cases hx : x ∈ ks
  · have h0 := hI.2 hx
    rw [decide_eq_true hx]
    simp -dsimp -implicitDefEqProofs (disch := first | omega | (simp only [List.length_append, List.length_cons, List.length_nil, List.length_take, List.length_drop]; omega)) only [h0, ↓aPre, aPost, oneW, allOne, retV, retVA, simprocAttr]
    exact post_eq rfl
  · have h0 : ¬ 0 ≤ I := fun e => hx (hI.1 e)
    rw [decide_eq_false hx]
    simp -dsimp -implicitDefEqProofs (disch := first | omega | (simp only [List.length_append, List.length_cons, List.length_nil, List.length_take, List.length_drop]; omega)) only [h0, ↓aPre, aPost, oneW, allOne, retV, retVA, simprocAttr]
    exact post_eq rfl
/-- what is split off, its error's number -/
def splE (l : List Int) : Int := if lowP l then (if (spK l l.length).2 = [] then 0 else 2) else 3
theorem split_e (l : List Int) : ∃ d, splitD l = [.lst 1 d, .c (.int .i64 (splE l))] := by
  unfold splitD splE
  split
  · split
    · exact ⟨_, rfl⟩
    · exact ⟨_, rfl⟩
  · exact ⟨_, rfl⟩
/-- whether a field is as a rule says -/
def chkR (y : Ru) (kd : Int) (l : List Int) : Int := if kd ∈ y.2.2.1 then (if l.length = 0 ∨ (0 < y.2.2.2 ∧ ¬ (l.length : Int) = y.2.2.2) then 5 else if kd = 2 then splE l else 0) else 3
def chkT (t kd : Int) (l : List Int) : Int := if 0 ≤ ix (fun y => decide (y.1 = t)) ruls 0 then chkR (fndR ruls (ix (fun y => decide (y.1 = t)) ruls 0)) kd l else 12
theorem two_all : ruls.all (fun y => decide (2 ∈ y.2.2.1 → y.2.2.1 = [2]) && decide (0 ≤ y.2.2.2 ∧ y.2.2.2 ≤ 100)) = true := by decide +kernel
theorem find_rule (t : Int) : ∃ (y : Ru) (fb : Bool), (2 ∈ y.2.2.1 → y.2.2.1 = [2]) ∧ y.2.2.1.length ≤ 1000 ∧ Giv Tryd.prog 10 [.c (.int .u16 t)] (retV [.agg [.c (.int .u16 y.1), .c (.string (strOfNums y.2.1)), .lst 1 (li .i64 y.2.2.1), .c (.int .i64 y.2.2.2)], .c (.bool fb)]) ∧
    ∀ kd l, chkT t kd l = if fb then chkR y kd l else 12 := by
  have hf := find_giv t
  unfold chkT
  obtain ⟨I, hI⟩ : ∃ I, I = ix (fun y => decide (y.1 = t)) ruls 0 := ⟨_, rfl⟩
  rw [← hI] at hf ⊢
  rcases found hI with ⟨h1, h2⟩ | ⟨k, rfl, h1, h2, _⟩
  · rw [decide_eq_false h2] at hf
    refine ⟨_, _, ?_, ?_, hf, fun kd l => by rw [if_neg h2]; rfl⟩
    · rw [fndR, if_pos h1]; decide
    · rw [fndR, if_pos h1]; decide
  · rw [decide_eq_true (by omega)] at hf
    have hm : ruls.getD k ru0 ∈ ruls := by
      simp only [List.getD, List.getElem?_eq_getElem h1, Option.getD_some]
      exact List.getElem_mem _
    have h3 := List.all_eq_true.1 two_all _ hm
    rw [Bool.and_eq_true, decide_eq_true_eq] at h3
    refine ⟨_, _, ?_, ?_, hf, fun kd l => by rw [if_pos (by omega)]; rfl⟩
    · rw [h2]; exact h3.1
    · rw [h2]; exact (okR_of (ok_mem hm)).2.2
theorem chk_giv (t : Int) (kd : Int) (l : List Int) (hl : l.length ≤ 300) (hU : In 18446744073709551616 l) :
    Giv Tryd.prog 14 [.agg [.c (.int .u16 t), .c (.int .i64 kd), .lst 1 (li .u64 l)]] (retV [.c (.int .i64 (chkT t kd l))]) := by
  obtain ⟨y, fb, h2, hlen, hf, hc⟩ := find_rule t
  rw [hc]
  obtain ⟨y1, y2, ks, mx⟩ := y
  dsimp only at hf h2 hlen
  have hll := li_length (k := .u64) (l := l)
  have c1 := contains_giv ks hlen kd
  have c2 := contains_giv ks hlen 2
  obtain ⟨d, hd⟩ := split_e l
  have hsp := split_giv l (by omega) hU
  rw [hd] at hsp
  clear hc hd
  refine Giv.of mixed c14 (Nat.le_of_ble_eq_true rfl) ?_
  simp -dsimp -implicitDefEqProofs (disch := first | omega | (simp only [List.length_append, List.length_cons, List.length_nil, List.length_take, List.length_drop]; omega)) only [a14, ↓aPre, aPost, oneW, allOne, retV, retVA, simprocAttr]
  refine call_giv hf ?_
  cases fb
  · simp -dsimp -implicitDefEqProofs (disch := first | omega | (simp only [List.length_append, List.length_cons, List.length_nil, List.length_take, List.length_drop]; omega)) only [↓aPre, aPost, oneW, allOne, retV, retVA, simprocAttr]
    exact post_eq rfl
  rw [if_pos rfl]
  unfold chkR
  dsimp only
  by_cases hk : kd ∈ ks
  · rw [if_pos hk]
    rw [decide_eq_true hk] at c1
    simp -dsimp -implicitDefEqProofs (disch := first | omega | (simp only [List.length_append, List.length_cons, List.length_nil, List.length_take, List.length_drop]; omega)) only [↓aPre, aPost, oneW, allOne, retV, retVA, simprocAttr]
    refine call_giv c1 ?_
    by_cases hm : 0 < mx
    · by_cases hn : (l.length : Int) = mx
      · by_cases h0 : l.length = 0
        · omega
        · rw [if_neg (by omega)]
          by_cases hk2 : kd = 2
          · subst hk2
            rw [decide_eq_true hk] at c2
            simp -dsimp -implicitDefEqProofs (disch := first | omega | (simp only [List.length_append, List.length_cons, List.length_nil, List.length_take, List.length_drop]; omega)) only [hm, hll, ibne_f hn, ibeq_f (show ¬ (l.length : Int) = 0 by omega), ↓aPre, aPost, oneW, allOne, retV, retVA, simprocAttr]
            refine call_giv c2 ?_
            simp -dsimp -implicitDefEqProofs (disch := first | omega | (simp only [List.length_append, List.length_cons, List.length_nil, List.length_take, List.length_drop]; omega)) only [↓aPre, aPost, oneW, allOne, retV, retVA, simprocAttr]
            refine call_giv hsp ?_
            simp -dsimp -implicitDefEqProofs (disch := first | omega | (simp only [List.length_append, List.length_cons, List.length_nil, List.length_take, List.length_drop]; omega)) only [↓aPre, aPost, oneW, allOne, retV, retVA, simprocAttr]
            exact post_eq rfl
          · have hk3 : ¬ 2 ∈ ks := fun h => by
              rw [h2 h] at hk
              exact hk2 (List.mem_singleton.1 hk)
            rw [decide_eq_false hk3] at c2
            rw [if_neg hk2]
            simp -dsimp -implicitDefEqProofs (disch := first | omega | (simp only [List.length_append, List.length_cons, List.length_nil, List.length_take, List.length_drop]; omega)) only [hm, hll, ibne_f hn, ibeq_f (show ¬ (l.length : Int) = 0 by omega), ↓aPre, aPost, oneW, allOne, retV, retVA, simprocAttr]
            refine call_giv c2 ?_
            simp -dsimp -implicitDefEqProofs (disch := first | omega | (simp only [List.length_append, List.length_cons, List.length_nil, List.length_take, List.length_drop]; omega)) only [↓aPre, aPost, oneW, allOne, retV, retVA, simprocAttr]
            exact post_eq rfl
      · rw [if_pos (.inr ⟨hm, hn⟩)]
        simp -dsimp -implicitDefEqProofs (disch := first | omega | (simp only [List.length_append, List.length_cons, List.length_nil, List.length_take, List.length_drop]; omega)) only [hm, hll, ibne_t hn, ↓aPre, aPost, oneW, allOne, retV, retVA, simprocAttr]
        exact post_eq rfl
    · by_cases h0 : l.length = 0
      · rw [if_pos (.inl h0)]
        simp -dsimp -implicitDefEqProofs (disch := first | omega | (simp only [List.length_append, List.length_cons, List.length_nil, List.length_take, List.length_drop]; omega)) only [hm, hll, ibeq_t (show (l.length : Int) = 0 by omega), ↓aPre, aPost, oneW, allOne, retV, retVA, simprocAttr]
        exact post_eq rfl
      · rw [if_neg (by omega)]
        by_cases hk2 : kd = 2
        · subst hk2
          rw [decide_eq_true hk] at c2
          simp -dsimp -implicitDefEqProofs (disch := first | omega | (simp only [List.length_append, List.length_cons, List.length_nil, List.length_take, List.length_drop]; omega)) only [hm, hll, ibeq_f (show ¬ (l.length : Int) = 0 by omega), ↓aPre, aPost, oneW, allOne, retV, retVA, simprocAttr]
          refine call_giv c2 ?_
          simp -dsimp -implicitDefEqProofs (disch := first | omega | (simp only [List.length_append, List.length_cons, List.length_nil, List.length_take, List.length_drop]; omega)) only [↓aPre, aPost, oneW, allOne, retV, retVA, simprocAttr]
          refine call_giv hsp ?_
          simp -dsimp -implicitDefEqProofs (disch := first | omega | (simp only [List.length_append, List.length_cons, List.length_nil, List.length_take, List.length_drop]; omega)) only [↓aPre, aPost, oneW, allOne, retV, retVA, simprocAttr]
          exact post_eq rfl
        · have hk3 : ¬ 2 ∈ ks := fun h => by
            rw [h2 h] at hk
            exact hk2 (List.mem_singleton.1 hk)
          rw [decide_eq_false hk3] at c2
          rw [if_neg hk2]
          simp -dsimp -implicitDefEqProofs (disch := first | omega | (simp only [List.length_append, List.length_cons, List.length_nil, List.length_take, List.length_drop]; omega)) only [hm, hll, ibeq_f (show ¬ (l.length : Int) = 0 by omega), ↓aPre, aPost, oneW, allOne, retV, retVA, simprocAttr]
          refine call_giv c2 ?_
          simp -dsimp -implicitDefEqProofs (disch := first | omega | (simp only [List.length_append, List.length_cons, List.length_nil, List.length_take, List.length_drop]; omega)) only [↓aPre, aPost, oneW, allOne, retV, retVA, simprocAttr]
          exact post_eq rfl
  · rw [if_neg hk]
    rw [decide_eq_false hk] at c1
    simp -dsimp -implicitDefEqProofs (disch := first | omega | (simp only [List.length_append, List.length_cons, List.length_nil, List.length_take, List.length_drop]; omega)) only [↓aPre, aPost, oneW, allOne, retV, retVA, simprocAttr]
    refine call_giv c1 ?_
    simp -dsimp -implicitDefEqProofs (disch := first | omega | (simp only [List.length_append, List.length_cons, List.length_nil, List.length_take, List.length_drop]; omega)) only [↓aPre, aPost, oneW, allOne, retV, retVA, simprocAttr]
    exact post_eq rfl
end Go.Proofs.YthbdglibakjfbaaDoor
namespace Go.Proofs.YthbdglibakjfbaaDoor
open Go.Eng Go.RowKit
variable [Inhabited Lo]
theorem mem_take {l : List Int} {k : Nat} (h : k < l.length) (x : Int) : x ∈ l.take (k + 1) ↔ x ∈ l.take k ∨ l.getD k 0 = x := by
  rw [List.take_succ_eq_append_getElem h, List.mem_append, List.mem_singleton, getD_elem h]
  exact ⟨fun h => h.imp id Eq.symm, fun h => h.imp id Eq.symm⟩
theorem rfind_rule (t : Int) : ∃ I : Int, Giv Tryd.prog 11 [.c (.int .i64 t)] (retV [.c (.int .i64 I)]) ∧ (I < 0 ∧ (∀ kd l, chkT t kd l = 12) ∨ ∃ k : Nat, I = k ∧ k < 55 ∧ (∀ kd l, chkT t kd l = chkR (ruls.getD k ru0) kd l)) := by
  refine ⟨_, rfind_giv t, ?_⟩
  unfold chkT
  obtain ⟨I, hI⟩ : ∃ I, I = ix (fun y => decide (y.1 = t)) ruls 0 := ⟨_, rfl⟩
  rw [← hI]
  rcases found hI with ⟨h1, h2⟩ | ⟨k, e, h1, h2, _⟩
  · exact .inl ⟨h1, fun _ _ => if_neg h2⟩
  · exact .inr ⟨k, e, by rw [ruls_len] at h1; exact h1, fun _ _ => by rw [if_pos (by omega), h2]⟩
theorem rchk_giv (t : Int) (ht : 0 ≤ t ∧ t ≤ 65535) (kd : Int) (l : List Int) (hl : l.length ≤ 300) (hU : In 18446744073709551616 l) :
    Giv Tryd.prog 15 [.agg [.c (.int .u16 t), .c (.int .i64 kd), .lst 1 (li .u64 l)]] (retV [.c (.int .i64 (chkT t kd l))]) := by
  obtain ⟨I, hfi, hc⟩ := rfind_rule t
  have hrr := rrsD_len ruls
  have hr55 := ruls_len
  have hll := li_length (k := .u64) (l := l)
  obtain ⟨d, hd⟩ := split_e l
  have hsp := rsplit_giv l (by omega) hU
  rw [hd] at hsp
  clear hd
  refine Giv.of mixed c15 (Nat.le_of_ble_eq_true rfl) ?_
  simp -dsimp -implicitDefEqProofs (disch := first | omega | (simp only [List.length_append, List.length_cons, List.length_nil, List.length_take, List.length_drop]; omega)) only [a15, ↓aPre, aPost, oneW, allOne, retV, retVA, simprocAttr]
  refine call_giv hfi ?_
  rcases hc with ⟨h1, hc⟩ | ⟨i, rfl, h1, hc⟩
  · rw [hc]
    simp -dsimp -implicitDefEqProofs (disch := first | omega | (simp only [List.length_append, List.length_cons, List.length_nil, List.length_take, List.length_drop]; omega)) only [h1, ↓aPre, aPost, oneW, allOne, retV, retVA, simprocAttr]
    exact post_eq rfl
  rw [hc]
  clear hc
  have hi' : i < ruls.length := by omega
  have hg := rrsD_get hi'
  have hlen := (okR_of (ok_get h1)).2.2
  obtain ⟨⟨y1, y2, ks, mx⟩, hy⟩ : ∃ y, y = ruls.getD i ru0 := ⟨_, rfl⟩
  rw [← hy] at hg hlen ⊢
  dsimp only at hg hlen
  clear hy
  have hlk := li_length (k := .i64) (l := ks)
  simp -dsimp -implicitDefEqProofs (disch := first | omega | (simp only [List.length_append, List.length_cons, List.length_nil, List.length_take, List.length_drop]; omega)) only [↓aPre, aPost, oneW, allOne, retV, retVA, simprocAttr]
  refine call_giv rr_giv ?_
  simp -dsimp -implicitDefEqProofs (disch := first | omega | (simp only [List.length_append, List.length_cons, List.length_nil, List.length_take, List.length_drop]; omega)) only [hrr, hr55, hg, ↓aPre, aPost, oneW, allOne, retV, retVA, simprocAttr]
  refine loop_of (fun s => ∃ (k : Nat), k ≤ ks.length ∧ s.tm 1 = .ptr 1 0 ∧ s.tm 4 = .ptr 4 0 ∧ s.tm 5 = .d (.c (.bool (decide (kd ∈ ks.take k)))) ∧ s.tm 6 = .d (.c (.int .i64 k)) ∧ s.hp 1 = some (.box [.d (.c (.int .u16 t)), .d (.c (.int .i64 kd)), .d (.lst 1 (li .u64 l))]) ∧ s.hp 4 = some (.box [.d (.c (.int .i64 y1)), .d (.c (.string (strOfNums y2))), .d (.lst 1 (li .i64 ks)), .d (.c (.int .i64 mx))])) (fun s => ks.length - (avN (s.tm 6)).toNat) ?_ ?_
  · refine ⟨0, Nat.zero_le _, ?_⟩
    have e0 : decide (kd ∈ ([] : List Int)) = false := by simp
    simp -dsimp -implicitDefEqProofs (disch := first | omega | (simp only [List.length_append, List.length_cons, List.length_nil, List.length_take, List.length_drop]; omega)) only [Int.natCast_zero, e0, ↓aPre, aPost, oneW, allOne, retV, retVA, simprocAttr]
  rintro s ⟨k, hk, hs⟩
  by_cases hlt : k < ks.length
  · have hm := mem_take hlt kd
    by_cases h2 : kd ∈ ks.take k
    · have h3 : kd ∈ ks.take (k + 1) := hm.2 (.inl h2)
      rw [decide_eq_true h2] at hs
      simp -dsimp -implicitDefEqProofs (disch := first | omega | (simp only [List.length_append, List.length_cons, List.length_nil, List.length_take, List.length_drop]; omega)) only [hs, hlk, ↓aPre, aPost, oneW, allOne, retV, retVA, simprocAttr]
      refine round_of ⟨k + 1, by omega, ?_⟩ ?_
      · simp -dsimp -implicitDefEqProofs (disch := first | omega | (simp only [List.length_append, List.length_cons, List.length_nil, List.length_take, List.length_drop]; omega)) only [hs, h3, ↓aPre, aPost, oneW, allOne, retV, retVA, simprocAttr]
      · simp -dsimp -implicitDefEqProofs (disch := first | omega | (simp only [List.length_append, List.length_cons, List.length_nil, List.length_take, List.length_drop]; omega)) only [hs, ↓aPre, aPost, oneW, allOne, retV, retVA, simprocAttr]
        omega
    · rw [decide_eq_false h2] at hs
      by_cases h4 : ks.getD k 0 = kd
      · have h3 : kd ∈ ks.take (k + 1) := hm.2 (.inr h4)
        simp -dsimp -implicitDefEqProofs (disch := first | omega | (simp only [List.length_append, List.length_cons, List.length_nil, List.length_take, List.length_drop]; omega)) only [hs, hlk, li_getD, ibeq_t h4, ↓aPre, aPost, oneW, allOne, retV, retVA, simprocAttr]
        refine round_of ⟨k + 1, by omega, ?_⟩ ?_
        · simp -dsimp -implicitDefEqProofs (disch := first | omega | (simp only [List.length_append, List.length_cons, List.length_nil, List.length_take, List.length_drop]; omega)) only [hs, h3, ↓aPre, aPost, oneW, allOne, retV, retVA, simprocAttr]
        · simp -dsimp -implicitDefEqProofs (disch := first | omega | (simp only [List.length_append, List.length_cons, List.length_nil, List.length_take, List.length_drop]; omega)) only [hs, ↓aPre, aPost, oneW, allOne, retV, retVA, simprocAttr]
          omega
      · have h3 : ¬ kd ∈ ks.take (k + 1) := fun h => (hm.1 h).elim h2 h4
        simp -dsimp -implicitDefEqProofs (disch := first | omega | (simp only [List.length_append, List.length_cons, List.length_nil, List.length_take, List.length_drop]; omega)) only [hs, hlk, li_getD, ibeq_f h4, ↓aPre, aPost, oneW, allOne, retV, retVA, simprocAttr]
        refine round_of ⟨k + 1, by omega, ?_⟩ ?_
        · simp -dsimp -implicitDefEqProofs (disch := first | omega | (simp only [List.length_append, List.length_cons, List.length_nil, List.length_take, List.length_drop]; omega)) only [hs, h3, ↓aPre, aPost, oneW, allOne, retV, retVA, simprocAttr]
        · simp -dsimp -implicitDefEqProofs (disch := first | omega | (simp only [List.length_append, List.length_cons, List.length_nil, List.length_take, List.length_drop]; omega)) only [hs, ↓aPre, aPost, oneW, allOne, retV, retVA, simprocAttr]
          omega
  · obtain rfl : k = ks.length := by omega
    rw [List.take_length] at hs
    unfold chkR
    dsimp only
    by_cases hk : kd ∈ ks
    · rw [decide_eq_true hk] at hs
      rw [if_pos hk]
      by_cases h0 : l.length = 0
      · rw [if_pos (.inl h0)]
        simp -dsimp -implicitDefEqProofs (disch := first | omega | (simp only [List.length_append, List.length_cons, List.length_nil, List.length_take, List.length_drop]; omega)) only [hs, hlk, hll, ibeq_t (show (l.length : Int) = 0 by omega), ↓aPre, aPost, oneW, allOne, retV, retVA, simprocAttr]
        exact post_eq rfl
      · have hz := ibeq_f (show ¬ (l.length : Int) = 0 by omega)
        by_cases hm : 0 < mx
        · by_cases hn : (l.length : Int) = mx
          · rw [if_neg (by omega)]
            by_cases hk2 : kd = 2
            · rw [if_pos hk2]
              simp -dsimp -implicitDefEqProofs (disch := first | omega | (simp only [List.length_append, List.length_cons, List.length_nil, List.length_take, List.length_drop]; omega)) only [hs, hlk, hll, hz, hm, ibne_f hn, ibeq_t hk2, ↓aPre, aPost, oneW, allOne, retV, retVA, simprocAttr]
              refine call_giv hsp ?_
              simp -dsimp -implicitDefEqProofs (disch := first | omega | (simp only [List.length_append, List.length_cons, List.length_nil, List.length_take, List.length_drop]; omega)) only [↓aPre, aPost, oneW, allOne, retV, retVA, simprocAttr]
              exact post_eq rfl
            · rw [if_neg hk2]
              simp -dsimp -implicitDefEqProofs (disch := first | omega | (simp only [List.length_append, List.length_cons, List.length_nil, List.length_take, List.length_drop]; omega)) only [hs, hlk, hll, hz, hm, ibne_f hn, ibeq_f hk2, ↓aPre, aPost, oneW, allOne, retV, retVA, simprocAttr]
              exact post_eq rfl
          · rw [if_pos (.inr ⟨hm, hn⟩)]
            simp -dsimp -implicitDefEqProofs (disch := first | omega | (simp only [List.length_append, List.length_cons, List.length_nil, List.length_take, List.length_drop]; omega)) only [hs, hlk, hll, hz, hm, ibne_t hn, ↓aPre, aPost, oneW, allOne, retV, retVA, simprocAttr]
            exact post_eq rfl
        · rw [if_neg (by omega)]
          by_cases hk2 : kd = 2
          · rw [if_pos hk2]
            simp -dsimp -implicitDefEqProofs (disch := first | omega | (simp only [List.length_append, List.length_cons, List.length_nil, List.length_take, List.length_drop]; omega)) only [hs, hlk, hll, hz, hm, ibeq_t hk2, ↓aPre, aPost, oneW, allOne, retV, retVA, simprocAttr]
            refine call_giv hsp ?_
            simp -dsimp -implicitDefEqProofs (disch := first | omega | (simp only [List.length_append, List.length_cons, List.length_nil, List.length_take, List.length_drop]; omega)) only [↓aPre, aPost, oneW, allOne, retV, retVA, simprocAttr]
            exact post_eq rfl
          · rw [if_neg hk2]
            simp -dsimp -implicitDefEqProofs (disch := first | omega | (simp only [List.length_append, List.length_cons, List.length_nil, List.length_take, List.length_drop]; omega)) only [hs, hlk, hll, hz, hm, ibeq_f hk2, ↓aPre, aPost, oneW, allOne, retV, retVA, simprocAttr]
            exact post_eq rfl
    · rw [decide_eq_false hk] at hs
      rw [if_neg hk]
      simp -dsimp -implicitDefEqProofs (disch := first | omega | (simp only [List.length_append, List.length_cons, List.length_nil, List.length_take, List.length_drop]; omega)) only [hs, hlk, ↓aPre, aPost, oneW, allOne, retV, retVA, simprocAttr]
      exact post_eq rfl
end Go.Proofs.YthbdglibakjfbaaDoor

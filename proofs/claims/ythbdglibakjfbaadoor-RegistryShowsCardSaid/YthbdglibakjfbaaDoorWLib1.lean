/- A number's text, a text in quotes, texts joined, a number among numbers: what the library's functions give. No condition but what each says. -/
import Derived.Test.YthbdglibakjfbaaDoorWTxt
import Derived.Test.YthbdglibakjfbaaDoorWFmt
import Derived.Lib.ItoaLen
import Derived.Lib.ItoaMem
set_option linter.unusedSimpArgs false
set_option linter.unusedVariables false
set_option maxRecDepth 8000
set_option maxHeartbeats 4000000
set_option linter.unusedSectionVars false
namespace Go.Proofs.YthbdglibakjfbaaDoor
open Go.Eng Go.RowKit
variable [Inhabited Lo]
def a29 : AFn := ⟨9, (.seq (.ops [⟨(.some 4), (.mov (.const (.bool false))), .none⟩]) (.seq (.ops [⟨(.some 5), (.mov (.tmp 0)), .none⟩, ⟨(.some 6), (.mov (.tmp 1)), .none⟩, ⟨(.some 7), (.call 7 46 [(.tmp 5), (.tmp 6)]), .none⟩, ⟨(.some 8), (.bin .geq (.tmp 7) (.const (.int .i64 0))), .none⟩, ⟨(.some 4), (.mov (.tmp 8)), .none⟩]) .ret)), [(4, .none)]⟩
theorem c29 : cmpF Tryd.prog [] [] 29 = some a29 := by kernel_rfl
def a40 : AFn := ⟨9, (.seq (.ops [⟨(.some 2), (.alloc 2 [(.int .u32 0), (.int .u32 0)]), .none⟩]) (.seq (.ops [⟨(.some 3), (.mov (.tmp 0)), .none⟩, ⟨(.some 4), (.bin .shr (.tmp 3) (.const (.int .u64 32))), .none⟩, ⟨(.some 5), (.cvI .u32 (.tmp 4)), .none⟩, ⟨(.some 6), (.mov (.tmp 0)), .none⟩, ⟨(.some 7), (.cvI .u32 (.tmp 6)), .none⟩, ⟨(.some 8), (.build [(.int .u32 0), (.int .u32 0)] [(0, (1, (.tmp 5))), (1, (1, (.tmp 7)))]), .none⟩, ⟨.none, (.st 2 (.tmp 2) (.tmp 8)), .none⟩]) .ret)), [(2, (.some (.some 2)))]⟩
theorem c40 : cmpF Tryd.prog [] [] 40 = some a40 := by kernel_rfl
def a41 : AFn := ⟨13, (.seq (.ops [⟨(.some 1), (.box 1 2 (.tmp 0)), .none⟩, ⟨(.some 2), (.mov (.const (.string (strOfNums [])))), .none⟩]) (.seq (.draw [(⟨(.some 3), (.fadr 0 (.tmp 1)), .none⟩, (false, [])), (⟨(.some 4), (.ld (.tmp 3)), .none⟩, (false, [])), (⟨(.some 5), (.cvI .u64 (.tmp 4)), .none⟩, (false, [])), (⟨(.some 8), (.fadr 1 (.tmp 1)), .none⟩, (false, [])), (⟨(.some 9), (.ld (.tmp 8)), .none⟩, (false, [])), (⟨(.some 10), (.cvI .u64 (.tmp 9)), .none⟩, (false, [])), (⟨(.some 6), (.call 6 42 [(.tmp 5), (.const (.int .i64 10))]), .none⟩, (false, [1])), (⟨(.some 7), (.bin .add (.tmp 6) (.const (.string (strOfNums [47])))), .none⟩, (false, [])), (⟨(.some 11), (.call 11 42 [(.tmp 10), (.const (.int .i64 10))]), .none⟩, (false, [1])), (⟨(.some 12), (.bin .add (.tmp 7) (.tmp 11)), .none⟩, (false, [])), (⟨(.some 2), (.mov (.tmp 12)), .none⟩, (false, []))]) .ret)), [(2, .none)]⟩
theorem c41 : cmpF Tryd.prog [] [] 41 = some a41 := by kernel_rfl
def a42 : AFn := ⟨8, (.seq (.ops [⟨(.some 4), (.mov (.const (.string (strOfNums [])))), .none⟩]) (.seq (.ops [⟨(.some 5), (.mov (.tmp 0)), .none⟩, ⟨(.some 6), (.mov (.tmp 1)), .none⟩, ⟨(.some 7), (.call 7 60 [(.tmp 5), (.tmp 6)]), .none⟩, ⟨(.some 4), (.mov (.tmp 7)), .none⟩]) .ret)), [(4, .none)]⟩
theorem c42 : cmpF Tryd.prog [] [] 42 = some a42 := by kernel_rfl
def a43 : AFn := ⟨26, (.seq (.ops [⟨(.some 4), (.mov (.const (.int .i64 0))), .none⟩, ⟨(.some 5), (.mov (.const (.int .i64 0))), .none⟩]) (.seq (.seq (.ops [⟨(.some 6), (.mov (.tmp 1)), .none⟩]) (.block 0 (.seq (.ops [⟨(.some 8), (.bin .eql (.tmp 6) (.const (.int .i64 6))), .none⟩, ⟨(.some 7), (.mov (.tmp 8)), .none⟩]) (.cond (.tmp 7) (.seq (.ops [⟨(.some 9), (.mov (.tmp 0)), .none⟩, ⟨(.some 10), (.cvI .i8 (.tmp 9)), .none⟩, ⟨(.some 11), (.cvI .i64 (.tmp 10)), .none⟩, ⟨(.some 4), (.mov (.tmp 11)), .none⟩, ⟨(.some 5), (.mov (.const (.int .i64 0))), .none⟩]) .ret) (.seq (.ops [⟨(.some 13), (.bin .eql (.tmp 6) (.const (.int .i64 8))), .none⟩, ⟨(.some 12), (.mov (.tmp 13)), .none⟩]) (.cond (.tmp 12) (.seq (.ops [⟨(.some 14), (.mov (.tmp 0)), .none⟩, ⟨(.some 15), (.cvI .i16 (.tmp 14)), .none⟩, ⟨(.some 16), (.cvI .i64 (.tmp 15)), .none⟩, ⟨(.some 4), (.mov (.tmp 16)), .none⟩, ⟨(.some 5), (.mov (.const (.int .i64 0))), .none⟩]) .ret) (.seq (.ops [⟨(.some 18), (.bin .eql (.tmp 6) (.const (.int .i64 9))), .none⟩, ⟨(.some 17), (.mov (.tmp 18)), .none⟩]) (.cond (.tmp 17) (.seq (.ops [⟨(.some 19), (.mov (.tmp 0)), .none⟩, ⟨(.some 20), (.cvI .i32 (.tmp 19)), .none⟩, ⟨(.some 21), (.cvI .i64 (.tmp 20)), .none⟩, ⟨(.some 4), (.mov (.tmp 21)), .none⟩, ⟨(.some 5), (.mov (.const (.int .i64 0))), .none⟩]) .ret) (.seq (.ops [⟨(.some 23), (.bin .eql (.tmp 6) (.const (.int .i64 17))), .none⟩, ⟨(.some 22), (.mov (.tmp 23)), .none⟩]) (.cond (.tmp 22) (.seq (.ops [⟨(.some 24), (.mov (.tmp 0)), .none⟩, ⟨(.some 25), (.cvI .i64 (.tmp 24)), .none⟩, ⟨(.some 4), (.mov (.tmp 25)), .none⟩, ⟨(.some 5), (.mov (.const (.int .i64 0))), .none⟩]) .ret) .skip)))))))))) (.seq (.ops [⟨(.some 4), (.mov (.const (.int .i64 0))), .none⟩, ⟨(.some 5), (.mov (.const (.int .i64 1))), .none⟩]) .ret))), [(4, .none), (5, .none)]⟩
theorem c43 : cmpF Tryd.prog [] [] 43 = some a43 := by kernel_rfl
def a46 : AFn := ⟨19, (.seq (.ops [⟨(.some 4), (.mov (.const (.int .i64 0))), .none⟩]) (.seq (.seq (.ops [⟨(.some 6), (.mov (.tmp 0)), .none⟩, ⟨(.some 7), (.len (.tmp 6)), .none⟩, ⟨(.some 8), (.mov (.const (.int .i64 0))), .none⟩]) (.block 0 (.loop (.seq (.ops [⟨(.some 9), (.bin .lss (.tmp 8) (.tmp 7)), .none⟩]) (.seq (.cond (.tmp 9) .skip (.exit 0)) (.seq (.block 1 (.seq (.ops [⟨(.some 10), (.mov (.tmp 8)), .none⟩, ⟨(.some 5), (.mov (.tmp 10)), .none⟩]) (.seq (.ops [⟨(.some 11), (.mov (.tmp 1)), .none⟩, ⟨(.some 12), (.mov (.tmp 0)), .none⟩, ⟨(.some 13), (.mov (.tmp 5)), .none⟩, ⟨(.some 14), (.iadr 1 (.tmp 12) (.tmp 13)), .none⟩, ⟨(.some 15), (.ld (.tmp 14)), .none⟩, ⟨(.some 16), (.bin .eql (.tmp 11) (.tmp 15)), .none⟩]) (.cond (.tmp 16) (.seq (.ops [⟨(.some 17), (.mov (.tmp 5)), .none⟩, ⟨(.some 4), (.mov (.tmp 17)), .none⟩]) .ret) .skip)))) (.ops [⟨(.some 18), (.bin .add (.tmp 8) (.const (.int .i64 1))), .none⟩, ⟨(.some 8), (.mov (.tmp 18)), .none⟩]))))))) (.seq (.ops [⟨(.some 4), (.mov (.const (.int .i64 (-1)))), .none⟩]) .ret))), [(4, .none)]⟩
theorem c46 : cmpF Tryd.prog [] [] 46 = some a46 := by kernel_rfl
def itL (z : Int) : List Int := nums ⟨(Lib.itoa z).toArray⟩
theorem itL_le {z : Int} (h0 : -9223372036854775808 ≤ z) (h1 : z ≤ 9223372036854775807) : (itL z).length ≤ 21 := by
  unfold itL
  rw [nums_length]
  exact Lib.itoa_length_le z h0 h1
theorem itz_giv (z : Int) (h0 : -9223372036854775808 ≤ z) (h1 : z ≤ 9223372036854775807) : Giv Tryd.prog 22 [.c (.int .i64 z)] (retV [.c (.string (strOfNums (itL z)))]) := by
  refine giv_lib (xs := [.int .i64 z]) (rs := [.string (strOfNums (itL z))]) (by kernel_rfl) (by simp [Value.oneCell']) fun w ht => ?_
  refine (Tryd.strconv_Itoa z h0 h1 w ht.pow).mono fun e w' ⟨he, k, os, hw⟩ => ?_
  subst hw
  rw [nums_str ⟨(Lib.itoa z).toArray⟩] at he
  exact ⟨he, Lib.below_grow _ _ (Nat.le_refl _) _ _⟩
theorem fint_giv (z : Int) (h0 : -9223372036854775808 ≤ z) (h1 : z ≤ 9223372036854775807) : Giv Tryd.prog 44 [.c (.int .i64 z), .c (.int .i64 10)] (retV [.c (.string (strOfNums (itL z)))]) := by
  refine giv_lib (xs := [.int .i64 z, .int .i64 10]) (rs := [.string (strOfNums (itL z))]) (by kernel_rfl) (by simp [Value.oneCell']) fun w ht => ?_
  refine (Tryd.strconv_FormatInt_10 z h0 h1 w ht.pow).mono fun e w' ⟨he, k, os, hw⟩ => ?_
  subst hw
  rw [nums_str ⟨(Lib.itoa z).toArray⟩] at he
  exact ⟨he, Lib.below_grow _ _ (Nat.le_refl _) _ _⟩
theorem ufmt_giv (u : Nat) (hu : u < 18446744073709551616) : Giv Tryd.prog 60 [.c (.int .u64 u), .c (.int .i64 10)] (retV [.c (.string (strOfNums (dec u)))]) := by
  refine giv_lib (xs := [.int .u64 u, .int .i64 10]) (rs := [.string (strOfNums (dec u))]) (by kernel_rfl) (by simp [Value.oneCell']) fun w ht => ?_
  refine (formatUint_calls u hu w ht.pow).mono fun e w' ⟨he, k, os, hw⟩ => ?_
  subst hw
  rw [str_dec] at he
  exact ⟨he, Lib.below_grow _ _ (Nat.le_refl _) _ _⟩
theorem fmt_giv (u : Nat) (hu : u < 18446744073709551616) : Giv Tryd.prog 42 [.c (.int .u64 u), .c (.int .i64 10)] (retV [.c (.string (strOfNums (dec u)))]) := by
  refine Giv.of mixed c42 (Nat.le_of_ble_eq_true rfl) ?_
  simp -dsimp -implicitDefEqProofs (disch := first | omega | (simp only [List.length_append, List.length_cons, List.length_nil, List.length_take, List.length_drop]; omega)) only [a42, ↓aPre, aPost, oneW, allOne, retV, retVA, simprocAttr]
  refine call_giv (ufmt_giv u hu) ?_
  simp -dsimp -implicitDefEqProofs (disch := first | omega | (simp only [List.length_append, List.length_cons, List.length_nil, List.length_take, List.length_drop]; omega)) only [↓aPre, aPost, oneW, allOne, retV, retVA, simprocAttr]
  exact post_eq rfl
/-- a text in quotes -/
def qtL (s : List Int) : List Int := Lib.quoteZ Lib.goPrintTabs (strOfNums s)
theorem qtL_le (s : List Int) : (qtL s).length ≤ 10 * s.length + 2 := by
  have := Lib.quoteZ_length_le Lib.goPrintTabs (strOfNums s)
  rw [str_size] at this
  exact this
theorem quote_giv (s : List Int) (hs : s.length ≤ 100000) : Giv Tryd.prog 24 [.c (.string (strOfNums s))] (retV [.c (.string (strOfNums (qtL s)))]) := by
  refine giv_lib (xs := [.string (strOfNums s)]) (rs := [.string (strOfNums (qtL s))]) (by kernel_rfl) (by simp [Value.oneCell']) fun w ht => ?_
  exact (Tryd.strconv_Quote Lib.goPrintTabs (strOfNums s) w (by rw [str_size]; omega) ht.print ht.utf).mono fun e w' ⟨he, hw⟩ => ⟨he, hw⟩
theorem join_ub (c : Int) : ∀ ss : List (List Int), Lib.join (ss.map ub) (ub [c]) = ub (joinS c ss)
  | [] => rfl
  | [p] => Lib.join_one _ _
  | p :: q :: r => by
    have ih := join_ub c (q :: r)
    unfold Lib.join at ih ⊢
    rw [joinS]
    show List.flatten (List.intersperse (ub [c]) (ub p :: ub q :: r.map ub)) = _
    rw [List.intersperse_cons_cons, List.flatten_cons, List.flatten_cons]
    have ih' : (List.intersperse (ub [c]) (ub q :: r.map ub)).flatten = ub (joinS c (q :: r)) := ih
    rw [ih']
    simp [ub]
theorem join_giv (c : Int) (ss : List (List Int)) (hn : ss.length ≤ 1000) (hl : (joinS c ss).length ≤ 1000000) : Giv Tryd.prog 25 [.lst 1 (sl ss), .c (.string (strOfNums [c]))] (retV [.c (.string (strOfNums (joinS c ss)))]) := by
  refine .inl ⟨by kernel_rfl, fun Z w vs hz ht hv => ?_⟩
  unfold DRt at hv
  obtain ⟨x, xs, rfl, hx, hv⟩ := hv
  obtain ⟨y, ys, rfl, hy, hv⟩ := hv
  unfold DRt at hv
  subst hv
  unfold DR at hx hy
  obtain ⟨rfl, _⟩ := hy
  obtain ⟨a, cap, rfl, h1, h2, h3⟩ := hx
  rw [sl_len] at h1 h3 ⊢
  have fin : ∀ e w', e = Ending.returned (.string (strOfNums (joinS c ss))) ∧ Below w.heap.size w w' → ∃ v Z', e = .returned v ∧ Done Z w Z' w' ∧ ∀ M, AR Z' M w' (retV [.c (.string (strOfNums (joinS c ss)))]) v := fun e w' ⟨he, hbl⟩ =>
    ⟨_, Z, he, ⟨fun _ h => h, fun _ h => .inl h, fun b hb => Nat.lt_of_lt_of_le (hz b hb) hbl.size, hbl⟩, fun M => retV_AR (drt_of (xs := [.string (strOfNums (joinS c ss))]) (by simp [Value.oneCell']))⟩
  rcases Nat.eq_zero_or_pos ss.length with h0 | h0
  · obtain rfl : ss = [] := List.eq_nil_of_length_eq_zero h0
    refine (Tryd.strings_Join_none a cap (strOfNums [c]) w).mono fun e w' ⟨he, hw⟩ => fin e w' ⟨he, ?_⟩
    subst hw
    exact Below.refl _ _
  · obtain ⟨b, off, rfl, hb, hr⟩ := h3 (by omega)
    have hj : (ss.map strOfNums).map (·.data.toList) = ss.map ub := by
      rw [List.map_map]
      exact List.map_congr_left fun x _ => str_ub x
    have hs1 : (strOfNums [c]).data.toList = ub [c] := str_ub _
    have hjj := join_ub c ss
    have hub : (ub (joinS c ss)).length = (joinS c ss).length := List.length_map ..
    have hst : (⟨(ub (joinS c ss)).toArray⟩ : ByteArray) = strOfNums (joinS c ss) := str_back _
    have := Tryd.strings_Join b off cap (ss.map strOfNums) (strOfNums [c]) w (fun j x hx => ?_) (hz b hb) (by rw [List.length_map]; omega) (by rw [List.length_map]; omega) (by rw [hj, hs1, hjj, hub]; omega)
    · rw [hj, hs1, hjj, hst, List.length_map] at this
      exact this.mono fin
    · have hj' : j < ss.length := by
        have := List.getElem?_eq_some_iff.1 hx
        obtain ⟨h, _⟩ := this
        simpa using h
      obtain ⟨y, ⟨hy1, hy2⟩, hy3⟩ := hr.get _ _ j (by rw [sl_len]; exact hj')
      rw [sl_get ss hj'] at hy3
      unfold DR at hy3
      obtain ⟨rfl, _⟩ := hy3
      have := hy2 0 (by decide)
      rw [Nat.add_zero, Nat.mul_one] at this
      rw [this]
      rw [List.getElem?_map, List.getElem?_eq_getElem hj'] at hx
      simp only [Option.map_some, Option.some.injEq] at hx
      subst hx
      simp only [List.getD, List.getElem?_eq_getElem hj', Option.getD_some]
      rfl
end Go.Proofs.YthbdglibakjfbaaDoor

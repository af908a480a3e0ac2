/- Copies of slices; a book of words made. No condition but what each says. -/
import Derived.Test.YtihgplkfikpgbaaDoorWLay
import Derived.Test.YtihgplkfikpgbaaDoorWGb
set_option linter.unusedSimpArgs false
set_option linter.unusedVariables false
set_option maxRecDepth 8000
set_option maxHeartbeats 4000000
namespace Go.Proofs.YtihgplkfikpgbaaDoor
open Go.Eng Go.RowKit
def a51 : AFn := ⟨8, (.seq (.ops [⟨(.some 2), (.mov (.const (.slice .none 0 0))), .none⟩]) (.seq (.seq (.ops [⟨(.some 3), (.mov (.tmp 0)), .none⟩, ⟨(.some 4), (.isNil false (.tmp 3)), .none⟩]) (.cond (.tmp 4) (.seq (.ops [⟨(.some 2), (.mov (.const (.slice .none 0 0))), .none⟩]) .ret) .skip)) (.seq (.ops [⟨(.some 5), (.lit0 5 1), .none⟩, ⟨(.some 6), (.mov (.tmp 0)), .none⟩, ⟨(.some 7), (.app 7 1 8 (.tmp 5) (.tmp 6)), .none⟩, ⟨(.some 2), (.mov (.tmp 7)), .none⟩]) .ret))), [(2, .none)]⟩
theorem c51 : cmpF Tryd.prog [] [] 51 = some a51 := by kernel_rfl
def a52 : AFn := ⟨8, (.seq (.ops [⟨(.some 2), (.mov (.const (.slice .none 0 0))), .none⟩]) (.seq (.seq (.ops [⟨(.some 3), (.mov (.tmp 0)), .none⟩, ⟨(.some 4), (.isNil false (.tmp 3)), .none⟩]) (.cond (.tmp 4) (.seq (.ops [⟨(.some 2), (.mov (.const (.slice .none 0 0))), .none⟩]) .ret) .skip)) (.seq (.ops [⟨(.some 5), (.lit0 5 1), .none⟩, ⟨(.some 6), (.mov (.tmp 0)), .none⟩, ⟨(.some 7), (.app 7 1 16 (.tmp 5) (.tmp 6)), .none⟩, ⟨(.some 2), (.mov (.tmp 7)), .none⟩]) .ret))), [(2, .none)]⟩
theorem c52 : cmpF Tryd.prog [] [] 52 = some a52 := by kernel_rfl
def a54 : AFn := ⟨8, (.seq (.ops [⟨(.some 2), (.mov (.const (.slice .none 0 0))), .none⟩]) (.seq (.seq (.ops [⟨(.some 3), (.mov (.tmp 0)), .none⟩, ⟨(.some 4), (.isNil false (.tmp 3)), .none⟩]) (.cond (.tmp 4) (.seq (.ops [⟨(.some 2), (.mov (.const (.slice .none 0 0))), .none⟩]) .ret) .skip)) (.seq (.ops [⟨(.some 5), (.lit0 5 1), .none⟩, ⟨(.some 6), (.mov (.tmp 0)), .none⟩, ⟨(.some 7), (.app 7 1 8 (.tmp 5) (.tmp 6)), .none⟩, ⟨(.some 2), (.mov (.tmp 7)), .none⟩]) .ret))), [(2, .none)]⟩
theorem c54 : cmpF Tryd.prog [] [] 54 = some a54 := by kernel_rfl
def a32 : AFn := ⟨39, (.seq (.ops [⟨(.some 4), (.mov (.const (.pointer .none))), .none⟩, ⟨(.some 5), (.mov (.const (.int .i64 0))), .none⟩]) (.seq (.seq (.ops [⟨(.some 10), (.mov (.tmp 0)), .none⟩, ⟨(.some 11), (.len (.tmp 10)), .none⟩, ⟨(.some 12), (.mov (.tmp 1)), .none⟩, ⟨(.some 13), (.len (.tmp 12)), .none⟩, ⟨(.some 14), (.bin .neq (.tmp 11) (.tmp 13)), .none⟩]) (.cond (.tmp 14) (.seq (.ops [⟨(.some 4), (.mov (.const (.pointer .none))), .none⟩, ⟨(.some 5), (.mov (.const (.int .i64 1))), .none⟩]) .ret) .skip)) (.seq (.ops [⟨(.some 15), (.build [(.int .i64 0), (.int .i64 0), (.int .i64 0)] [(2, (1, (.const (.int .i64 (-1)))))]), .none⟩, ⟨(.some 16), (.litO 16 3 [(.tmp 15)]), .none⟩, ⟨(.some 17), (.mov (.tmp 1)), .none⟩, ⟨(.some 18), (.call 18 51 [(.tmp 17)]), .none⟩, ⟨(.some 19), (.mov (.tmp 0)), .none⟩, ⟨(.some 20), (.call 20 52 [(.tmp 19)]), .none⟩, ⟨(.some 21), (.build [(.slice .none 0 0), (.slice .none 0 0), (.slice .none 0 0)] [(0, (1, (.tmp 16))), (1, (1, (.tmp 18))), (2, (1, (.tmp 20)))]), .none⟩, ⟨(.some 22), (.box 22 3 (.tmp 21)), .none⟩, ⟨(.some 6), (.mov (.tmp 22)), .none⟩]) (.seq (.seq (.ops [⟨(.some 23), (.mov (.tmp 0)), .none⟩, ⟨(.some 24), (.len (.tmp 23)), .none⟩, ⟨(.some 25), (.mov (.const (.int .i64 0))), .none⟩]) (.block 0 (.loop (.seq (.ops [⟨(.some 26), (.bin .lss (.tmp 25) (.tmp 24)), .none⟩]) (.seq (.cond (.tmp 26) .skip (.exit 0)) (.seq (.block 1 (.seq (.ops [⟨(.some 27), (.mov (.tmp 25)), .none⟩, ⟨(.some 28), (.iadr 1 (.tmp 23) (.tmp 25)), .none⟩, ⟨(.some 29), (.ld (.tmp 28)), .none⟩, ⟨(.some 7), (.mov (.tmp 27)), .none⟩, ⟨(.some 8), (.mov (.tmp 29)), .none⟩]) (.seq (.ops [⟨(.some 30), (.mov (.tmp 6)), .none⟩, ⟨(.some 31), (.mov (.tmp 8)), .none⟩, ⟨(.some 32), (.mov (.tmp 7)), .none⟩, ⟨(.some 33), (.callm 53 [(.tmp 30), (.tmp 31), (.tmp 32)]), .none⟩, ⟨(.some 9), (.mov (.tmp 33)), .none⟩]) (.seq (.ops [⟨(.some 34), (.mov (.tmp 9)), .none⟩, ⟨(.some 35), (.bin .neq (.tmp 34) (.const (.int .i64 0))), .none⟩]) (.cond (.tmp 35) (.seq (.ops [⟨(.some 36), (.mov (.tmp 9)), .none⟩, ⟨(.some 4), (.mov (.const (.pointer .none))), .none⟩, ⟨(.some 5), (.mov (.tmp 36)), .none⟩]) .ret) .skip))))) (.ops [⟨(.some 37), (.bin .add (.tmp 25) (.const (.int .i64 1))), .none⟩, ⟨(.some 25), (.mov (.tmp 37)), .none⟩]))))))) (.seq (.ops [⟨(.some 38), (.mov (.tmp 6)), .none⟩, ⟨(.some 4), (.mov (.tmp 38)), .none⟩, ⟨(.some 5), (.mov (.const (.int .i64 0))), .none⟩]) .ret))))), [(4, .none), (5, .none)]⟩
theorem c32 : cmpF Tryd.prog [16, 3000053] [] 32 = some a32 := by kernel_rfl
def a34 : AFn := ⟨39, (.seq (.ops [⟨(.some 4), (.mov (.const (.pointer .none))), .none⟩, ⟨(.some 5), (.mov (.const (.int .i64 0))), .none⟩]) (.seq (.seq (.ops [⟨(.some 10), (.mov (.tmp 0)), .none⟩, ⟨(.some 11), (.len (.tmp 10)), .none⟩, ⟨(.some 12), (.mov (.tmp 1)), .none⟩, ⟨(.some 13), (.len (.tmp 12)), .none⟩, ⟨(.some 14), (.bin .neq (.tmp 11) (.tmp 13)), .none⟩]) (.cond (.tmp 14) (.seq (.ops [⟨(.some 4), (.mov (.const (.pointer .none))), .none⟩, ⟨(.some 5), (.mov (.const (.int .i64 1))), .none⟩]) .ret) .skip)) (.seq (.ops [⟨(.some 15), (.build [(.int .i64 0), (.int .i64 0), (.int .i64 0)] [(2, (1, (.const (.int .i64 (-1)))))]), .none⟩, ⟨(.some 16), (.litO 16 3 [(.tmp 15)]), .none⟩, ⟨(.some 17), (.mov (.tmp 1)), .none⟩, ⟨(.some 18), (.call 18 54 [(.tmp 17)]), .none⟩, ⟨(.some 19), (.mov (.tmp 0)), .none⟩, ⟨(.some 20), (.call 20 52 [(.tmp 19)]), .none⟩, ⟨(.some 21), (.build [(.slice .none 0 0), (.slice .none 0 0), (.slice .none 0 0)] [(0, (1, (.tmp 16))), (1, (1, (.tmp 18))), (2, (1, (.tmp 20)))]), .none⟩, ⟨(.some 22), (.box 22 3 (.tmp 21)), .none⟩, ⟨(.some 6), (.mov (.tmp 22)), .none⟩]) (.seq (.seq (.ops [⟨(.some 23), (.mov (.tmp 0)), .none⟩, ⟨(.some 24), (.len (.tmp 23)), .none⟩, ⟨(.some 25), (.mov (.const (.int .i64 0))), .none⟩]) (.block 0 (.loop (.seq (.ops [⟨(.some 26), (.bin .lss (.tmp 25) (.tmp 24)), .none⟩]) (.seq (.cond (.tmp 26) .skip (.exit 0)) (.seq (.block 1 (.seq (.ops [⟨(.some 27), (.mov (.tmp 25)), .none⟩, ⟨(.some 28), (.iadr 1 (.tmp 23) (.tmp 25)), .none⟩, ⟨(.some 29), (.ld (.tmp 28)), .none⟩, ⟨(.some 7), (.mov (.tmp 27)), .none⟩, ⟨(.some 8), (.mov (.tmp 29)), .none⟩]) (.seq (.ops [⟨(.some 30), (.mov (.tmp 6)), .none⟩, ⟨(.some 31), (.mov (.tmp 8)), .none⟩, ⟨(.some 32), (.mov (.tmp 7)), .none⟩, ⟨(.some 33), (.callm 55 [(.tmp 30), (.tmp 31), (.tmp 32)]), .none⟩, ⟨(.some 9), (.mov (.tmp 33)), .none⟩]) (.seq (.ops [⟨(.some 34), (.mov (.tmp 9)), .none⟩, ⟨(.some 35), (.bin .neq (.tmp 34) (.const (.int .i64 0))), .none⟩]) (.cond (.tmp 35) (.seq (.ops [⟨(.some 36), (.mov (.tmp 9)), .none⟩, ⟨(.some 4), (.mov (.const (.pointer .none))), .none⟩, ⟨(.some 5), (.mov (.tmp 36)), .none⟩]) .ret) .skip))))) (.ops [⟨(.some 37), (.bin .add (.tmp 25) (.const (.int .i64 1))), .none⟩, ⟨(.some 25), (.mov (.tmp 37)), .none⟩]))))))) (.seq (.ops [⟨(.some 38), (.mov (.tmp 6)), .none⟩, ⟨(.some 4), (.mov (.tmp 38)), .none⟩, ⟨(.some 5), (.mov (.const (.int .i64 0))), .none⟩]) .ret))))), [(4, .none), (5, .none)]⟩
theorem c34 : cmpF Tryd.prog [16, 3000055] [] 34 = some a34 := by kernel_rfl
def wsD (ws : List (List Int)) : List D := ws.map fun l => .c (.string (strOfNums (txt l)))
theorem wsD_len (ws : List (List Int)) : (wsD ws).length = ws.length := List.length_map ..
theorem wsD_get {ws : List (List Int)} {i : Nat} (h : i < ws.length) : (wsD ws).getD i default = .c (.string (strOfNums (txt (ws.getD i [])))) := by
  simp only [wsD, List.getD, List.getElem?_map, List.getElem?_eq_getElem h, Option.map_some, Option.getD_some]
theorem clone_giv (a : List Int) (ha : a.length ≤ 1000) : Giv Tryd.prog 51 [.lst 1 (li .i64 a)] (retV [.lst 1 (li .i64 a)]) := by
  refine Giv.of mixed c51 (Nat.le_of_ble_eq_true rfl) ?_
  simp -dsimp -implicitDefEqProofs (disch := first | omega | (simp only [List.length_append, List.length_cons, List.length_nil, List.length_take, List.length_drop]; omega)) only [a51, ↓aPre, aPost, oneW, allOne, retV, retVA, simprocAttr]
  refine nil_split (fun h => ?_) ?_
  · obtain rfl : a = [] := List.eq_nil_of_length_eq_zero h
    simp -dsimp -implicitDefEqProofs (disch := first | omega | (simp only [List.length_append, List.length_cons, List.length_nil, List.length_take, List.length_drop]; omega)) only [↓aPre, aPost, oneW, allOne, retV, retVA, simprocAttr]
    exact post_nil (leD_refl _)
  · simp -dsimp -implicitDefEqProofs (disch := first | omega | (simp only [List.length_append, List.length_cons, List.length_nil, List.length_take, List.length_drop]; omega)) only [↓aPre, aPost, oneW, allOne, retV, retVA, simprocAttr]
    exact post_eq rfl
theorem clone3_giv (a : List Int) (ha : a.length ≤ 1000) : Giv Tryd.prog 54 [.lst 1 (li .i64 a)] (retV [.lst 1 (li .i64 a)]) := by
  refine Giv.of mixed c54 (Nat.le_of_ble_eq_true rfl) ?_
  simp -dsimp -implicitDefEqProofs (disch := first | omega | (simp only [List.length_append, List.length_cons, List.length_nil, List.length_take, List.length_drop]; omega)) only [a54, ↓aPre, aPost, oneW, allOne, retV, retVA, simprocAttr]
  refine nil_split (fun h => ?_) ?_
  · obtain rfl : a = [] := List.eq_nil_of_length_eq_zero h
    simp -dsimp -implicitDefEqProofs (disch := first | omega | (simp only [List.length_append, List.length_cons, List.length_nil, List.length_take, List.length_drop]; omega)) only [↓aPre, aPost, oneW, allOne, retV, retVA, simprocAttr]
    exact post_nil (leD_refl _)
  · simp -dsimp -implicitDefEqProofs (disch := first | omega | (simp only [List.length_append, List.length_cons, List.length_nil, List.length_take, List.length_drop]; omega)) only [↓aPre, aPost, oneW, allOne, retV, retVA, simprocAttr]
    exact post_eq rfl
theorem clone2_giv (ws : List (List Int)) (ha : ws.length ≤ 1000) : Giv Tryd.prog 52 [.lst 1 (wsD ws)] (retV [.lst 1 (wsD ws)]) := by
  have hl := wsD_len ws
  have hall : (wsD ws).all (fun d => decide (d.cells.length = 1)) = true := by
    rw [List.all_eq_true]
    intro d hd
    obtain ⟨x, _, rfl⟩ := List.mem_map.1 hd
    rfl
  refine Giv.of mixed c52 (Nat.le_of_ble_eq_true rfl) ?_
  simp -dsimp -implicitDefEqProofs (disch := first | omega | (simp only [List.length_append, List.length_cons, List.length_nil, List.length_take, List.length_drop]; omega)) only [a52, hl, ↓aPre, aPost, oneW, allOne, retV, retVA, simprocAttr]
  refine nil_split (fun h => ?_) ?_
  · obtain rfl : ws = [] := List.eq_nil_of_length_eq_zero h
    simp -dsimp -implicitDefEqProofs (disch := first | omega | (simp only [List.length_append, List.length_cons, List.length_nil, List.length_take, List.length_drop]; omega)) only [↓aPre, aPost, oneW, allOne, retV, retVA, simprocAttr]
    exact post_nil (leD_refl _)
  · simp -dsimp -implicitDefEqProofs (disch := first | omega | (simp only [List.length_append, List.length_cons, List.length_nil, List.length_take, List.length_drop]; omega)) only [hl, ↓aPre, aPost, oneW, allOne, retV, retVA, simprocAttr]
    exact post_eq rfl
theorem new_m (ws : List (List Int)) (ms : List Int) (out : List Nd) (h : bookO ws 0 [nd0] = some out) (hm : ms.length = ws.length) (hw : ws.length ≤ 1000) (hall : ∀ i, i < ws.length → Bits (ws.getD i []) ∧ ws.getD i [] ≠ [] ∧ (ws.getD i []).length ≤ 20) :
    GivM Tryd.prog 32 [.d (.lst 1 (wsD ws)), .d (.lst 1 (li .i64 ms))] [] (.tup [.d (.ref [.lst 3 (out.map ndD), .lst 1 (li .i64 ms), .lst 1 (wsD ws)]), .d (.c (.int .i64 0))]) [] := by
  have hl := wsD_len ws
  have hml := li_length (k := .i64) (l := ms)
  rw [hm] at hml
  refine GivM.of mixed c32 (Nat.le_of_ble_eq_true rfl) rfl rfl ?_
  simp -dsimp -implicitDefEqProofs (disch := first | omega | (simp only [List.length_append, List.length_cons, List.length_nil, List.length_take, List.length_drop]; omega)) only [a32, hl, hml, ibne_f, ↓aPre, aPost, oneW, allOne, retV, retVA, simprocAttr]
  refine call_giv (clone_giv ms (by omega)) ?_
  simp -dsimp -implicitDefEqProofs (disch := first | omega | (simp only [List.length_append, List.length_cons, List.length_nil, List.length_take, List.length_drop]; omega)) only [↓aPre, aPost, oneW, allOne, retV, retVA, simprocAttr]
  refine call_giv (clone2_giv ws (by omega)) ?_
  simp -dsimp -implicitDefEqProofs (disch := first | omega | (simp only [List.length_append, List.length_cons, List.length_nil, List.length_take, List.length_drop]; omega)) only [hl, hml, ↓aPre, aPost, oneW, allOne, retV, retVA, simprocAttr]
  refine loop_of (fun s => ∃ (k : Nat) (nd : List Nd), k ≤ ws.length ∧ bookO (ws.drop k) k nd = some out ∧ 1 ≤ nd.length ∧ nd.length + 20 * (ws.length - k) ≤ 90000 ∧ s.tm 6 = .ptr 22 0 ∧ s.tm 23 = .d (.lst 1 (wsD ws)) ∧ s.tm 24 = .d (.c (.int .i64 ws.length)) ∧ s.tm 25 = .d (.c (.int .i64 k)) ∧ s.hp 22 = some (.box [.sl 16 3 0 nd.length, .d (.lst 1 (li .i64 ms)), .d (.lst 1 (wsD ws))]) ∧ s.hp 16 = some (.row 3 (nd.map ndD))) (fun s => ws.length - (avN (s.tm 25)).toNat) ?_ ?_
  · refine ⟨0, [nd0], Nat.zero_le _, by rw [List.drop_zero]; exact h, Nat.le_refl _, ?_, ?_⟩
    · rw [List.length_singleton]; omega
    simp -dsimp -implicitDefEqProofs (disch := first | omega | (simp only [List.length_append, List.length_cons, List.length_nil, List.length_take, List.length_drop]; omega)) only [Int.natCast_zero, ↓aPre, aPost, oneW, allOne, retV, retVA, simprocAttr]
    rfl
  rintro s ⟨k, nd, hk, hb, h1, h2, hs⟩
  by_cases hlt : k < ws.length
  · have hg := wsD_get hlt
    obtain ⟨b1, b2, b3⟩ := hall k hlt
    have hd : ws.drop k = ws.getD k [] :: ws.drop (k + 1) := by
      rw [List.drop_eq_getElem_cons hlt]
      simp only [List.getD, List.getElem?_eq_getElem hlt, Option.getD_some]
    obtain ⟨w, hw⟩ : ∃ w, w = ws.getD k [] := ⟨_, rfl⟩
    rw [← hw] at hg b1 b2 b3 hd
    rw [hd, bookO] at hb
    obtain ⟨nd2, e1, e2⟩ := Option.bind_eq_some_iff.1 hb
    have hlen := layS_len e1
    have hlm := lay_m k w b1 b2 nd nd2 e1 (by omega) h1 (.lst 1 (li .i64 ms)) (.lst 1 (wsD ws))
    simp -dsimp -implicitDefEqProofs (disch := first | omega | (simp only [List.length_append, List.length_cons, List.length_nil, List.length_take, List.length_drop]; omega)) only [hs, hl, hg, ↓aPre, aPost, oneW, allOne, retV, retVA, simprocAttr]
    refine call_mut hlm [(2000000, 22), (1000000, 16)] rfl rfl ?_ ?_
    · simp -dsimp -implicitDefEqProofs (disch := first | omega | (simp only [List.length_append, List.length_cons, List.length_nil, List.length_take, List.length_drop]; omega)) only [hs, ↓aPre, aPost, oneW, allOne, retV, retVA, simprocAttr]
    simp -dsimp -implicitDefEqProofs (disch := first | omega | (simp only [List.length_append, List.length_cons, List.length_nil, List.length_take, List.length_drop]; omega)) only [hs, ibne_f, ↓aPre, aPost, oneW, allOne, retV, retVA, simprocAttr]
    refine round_of ⟨k + 1, nd2, by omega, e2, by omega, by omega, ?_⟩ ?_
    · simp -dsimp -implicitDefEqProofs (disch := first | omega | (simp only [List.length_append, List.length_cons, List.length_nil, List.length_take, List.length_drop]; omega)) only [hs, ↓aPre, aPost, oneW, allOne, retV, retVA, simprocAttr]
    · simp -dsimp -implicitDefEqProofs (disch := first | omega | (simp only [List.length_append, List.length_cons, List.length_nil, List.length_take, List.length_drop]; omega)) only [hs, ↓aPre, aPost, oneW, allOne, retV, retVA, simprocAttr]
      omega
  · obtain rfl : k = ws.length := by omega
    rw [List.drop_length, bookO, Option.some.injEq] at hb
    subst hb
    have hnl := nds_len nd
    simp -dsimp -implicitDefEqProofs (disch := first | omega | (simp only [List.length_append, List.length_cons, List.length_nil, List.length_take, List.length_drop]; omega)) only [hs, ↓aPre, aPost, oneW, allOne, retV, retVA, simprocAttr]
    refine end_G (Gh.bok (n := 22) (m := 16) (es := 3) (len := nd.length) (L := nd.map ndD) (d1 := .lst 1 (li .i64 ms)) (d2 := .lst 1 (wsD ws)) (by simp -dsimp -implicitDefEqProofs (disch := first | omega | (simp only [List.length_append, List.length_cons, List.length_nil, List.length_take, List.length_drop]; omega)) only [hs, ↓aPre, aPost, oneW, allOne, retV, retVA, simprocAttr]) (by simp -dsimp -implicitDefEqProofs (disch := first | omega | (simp only [List.length_append, List.length_cons, List.length_nil, List.length_take, List.length_drop]; omega)) only [hs, ↓aPre, aPost, oneW, allOne, retV, retVA, simprocAttr]) hnl.symm (by decide) (by decide) (by decide)) rfl ?_
    trivial
theorem new2_m (ws : List (List Int)) (ms : List Int) (out : List Nd) (h : bookO ws 0 [nd0] = some out) (hm : ms.length = ws.length) (hw : ws.length ≤ 1000) (hall : ∀ i, i < ws.length → Bits (ws.getD i []) ∧ ws.getD i [] ≠ [] ∧ (ws.getD i []).length ≤ 20) :
    GivM Tryd.prog 34 [.d (.lst 1 (wsD ws)), .d (.lst 1 (li .i64 ms))] [] (.tup [.d (.ref [.lst 3 (out.map ndD), .lst 1 (li .i64 ms), .lst 1 (wsD ws)]), .d (.c (.int .i64 0))]) [] := by
  have hl := wsD_len ws
  have hml := li_length (k := .i64) (l := ms)
  rw [hm] at hml
  refine GivM.of mixed c34 (Nat.le_of_ble_eq_true rfl) rfl rfl ?_
  simp -dsimp -implicitDefEqProofs (disch := first | omega | (simp only [List.length_append, List.length_cons, List.length_nil, List.length_take, List.length_drop]; omega)) only [a34, hl, hml, ibne_f, ↓aPre, aPost, oneW, allOne, retV, retVA, simprocAttr]
  refine call_giv (clone3_giv ms (by omega)) ?_
  simp -dsimp -implicitDefEqProofs (disch := first | omega | (simp only [List.length_append, List.length_cons, List.length_nil, List.length_take, List.length_drop]; omega)) only [↓aPre, aPost, oneW, allOne, retV, retVA, simprocAttr]
  refine call_giv (clone2_giv ws (by omega)) ?_
  simp -dsimp -implicitDefEqProofs (disch := first | omega | (simp only [List.length_append, List.length_cons, List.length_nil, List.length_take, List.length_drop]; omega)) only [hl, hml, ↓aPre, aPost, oneW, allOne, retV, retVA, simprocAttr]
  refine loop_of (fun s => ∃ (k : Nat) (nd : List Nd), k ≤ ws.length ∧ bookO (ws.drop k) k nd = some out ∧ 1 ≤ nd.length ∧ nd.length + 20 * (ws.length - k) ≤ 90000 ∧ s.tm 6 = .ptr 22 0 ∧ s.tm 23 = .d (.lst 1 (wsD ws)) ∧ s.tm 24 = .d (.c (.int .i64 ws.length)) ∧ s.tm 25 = .d (.c (.int .i64 k)) ∧ s.hp 22 = some (.box [.sl 16 3 0 nd.length, .d (.lst 1 (li .i64 ms)), .d (.lst 1 (wsD ws))]) ∧ s.hp 16 = some (.row 3 (nd.map ndD))) (fun s => ws.length - (avN (s.tm 25)).toNat) ?_ ?_
  · refine ⟨0, [nd0], Nat.zero_le _, by rw [List.drop_zero]; exact h, Nat.le_refl _, ?_, ?_⟩
    · rw [List.length_singleton]; omega
    simp -dsimp -implicitDefEqProofs (disch := first | omega | (simp only [List.length_append, List.length_cons, List.length_nil, List.length_take, List.length_drop]; omega)) only [Int.natCast_zero, ↓aPre, aPost, oneW, allOne, retV, retVA, simprocAttr]
    rfl
  rintro s ⟨k, nd, hk, hb, h1, h2, hs⟩
  by_cases hlt : k < ws.length
  · have hg := wsD_get hlt
    obtain ⟨b1, b2, b3⟩ := hall k hlt
    have hd : ws.drop k = ws.getD k [] :: ws.drop (k + 1) := by
      rw [List.drop_eq_getElem_cons hlt]
      simp only [List.getD, List.getElem?_eq_getElem hlt, Option.getD_some]
    obtain ⟨w, hw⟩ : ∃ w, w = ws.getD k [] := ⟨_, rfl⟩
    rw [← hw] at hg b1 b2 b3 hd
    rw [hd, bookO] at hb
    obtain ⟨nd2, e1, e2⟩ := Option.bind_eq_some_iff.1 hb
    have hlen := layS_len e1
    have hlm := lay2_m k w b1 b2 nd nd2 e1 (by omega) h1 (.lst 1 (li .i64 ms)) (.lst 1 (wsD ws))
    simp -dsimp -implicitDefEqProofs (disch := first | omega | (simp only [List.length_append, List.length_cons, List.length_nil, List.length_take, List.length_drop]; omega)) only [hs, hl, hg, ↓aPre, aPost, oneW, allOne, retV, retVA, simprocAttr]
    refine call_mut hlm [(2000000, 22), (1000000, 16)] rfl rfl ?_ ?_
    · simp -dsimp -implicitDefEqProofs (disch := first | omega | (simp only [List.length_append, List.length_cons, List.length_nil, List.length_take, List.length_drop]; omega)) only [hs, ↓aPre, aPost, oneW, allOne, retV, retVA, simprocAttr]
    simp -dsimp -implicitDefEqProofs (disch := first | omega | (simp only [List.length_append, List.length_cons, List.length_nil, List.length_take, List.length_drop]; omega)) only [hs, ibne_f, ↓aPre, aPost, oneW, allOne, retV, retVA, simprocAttr]
    refine round_of ⟨k + 1, nd2, by omega, e2, by omega, by omega, ?_⟩ ?_
    · simp -dsimp -implicitDefEqProofs (disch := first | omega | (simp only [List.length_append, List.length_cons, List.length_nil, List.length_take, List.length_drop]; omega)) only [hs, ↓aPre, aPost, oneW, allOne, retV, retVA, simprocAttr]
    · simp -dsimp -implicitDefEqProofs (disch := first | omega | (simp only [List.length_append, List.length_cons, List.length_nil, List.length_take, List.length_drop]; omega)) only [hs, ↓aPre, aPost, oneW, allOne, retV, retVA, simprocAttr]
      omega
  · obtain rfl : k = ws.length := by omega
    rw [List.drop_length, bookO, Option.some.injEq] at hb
    subst hb
    have hnl := nds_len nd
    simp -dsimp -implicitDefEqProofs (disch := first | omega | (simp only [List.length_append, List.length_cons, List.length_nil, List.length_take, List.length_drop]; omega)) only [hs, ↓aPre, aPost, oneW, allOne, retV, retVA, simprocAttr]
    refine end_G (Gh.bok (n := 22) (m := 16) (es := 3) (len := nd.length) (L := nd.map ndD) (d1 := .lst 1 (li .i64 ms)) (d2 := .lst 1 (wsD ws)) (by simp -dsimp -implicitDefEqProofs (disch := first | omega | (simp only [List.length_append, List.length_cons, List.length_nil, List.length_take, List.length_drop]; omega)) only [hs, ↓aPre, aPost, oneW, allOne, retV, retVA, simprocAttr]) (by simp -dsimp -implicitDefEqProofs (disch := first | omega | (simp only [List.length_append, List.length_cons, List.length_nil, List.length_take, List.length_drop]; omega)) only [hs, ↓aPre, aPost, oneW, allOne, retV, retVA, simprocAttr]) hnl.symm (by decide) (by decide) (by decide)) rfl ?_
    trivial
end Go.Proofs.YtihgplkfikpgbaaDoor

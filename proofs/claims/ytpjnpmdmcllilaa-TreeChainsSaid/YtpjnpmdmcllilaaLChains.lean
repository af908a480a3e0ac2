/- TreeChains: the law's function gives true of all data. No condition but that whole numbers are of their kinds. -/
import Derived.Test.YtpjnpmdmcllilaaLChW
set_option linter.unusedSimpArgs false
set_option linter.unusedVariables false
set_option maxRecDepth 8000
set_option maxHeartbeats 8000000
namespace Go.Proofs.Ytpjnpmdmcllilaa
open Go.Eng Go.RowKit
def a4 : AFn := ⟨111, (.seq (.ops [⟨(.some 4), (.box 4 3 (.tmp 1)), .none⟩, ⟨(.some 6), (.mov (.const (.bool false))), .none⟩]) (.seq (.seq (.ops [⟨(.some 16), (.call 16 5 []), .none⟩, ⟨(.some 17), (.un .not (.tmp 16)), .none⟩, ⟨(.some 18), (.mov (.tmp 17)), .none⟩, ⟨(.some 19), (.mov (.tmp 0)), (.some (18, false))⟩, ⟨(.some 20), (.len (.tmp 19)), (.some (18, false))⟩, ⟨(.some 21), (.bin .gtr (.tmp 20) (.const (.int .i64 2000))), (.some (18, false))⟩, ⟨(.some 22), (.pick (.tmp 18) (.const (.bool true)) (.tmp 21)), .none⟩]) (.cond (.tmp 22) (.seq (.ops [⟨(.some 23), (.call 23 5 []), .none⟩, ⟨(.some 6), (.mov (.tmp 23)), .none⟩]) .ret) .skip)) (.seq (.ops [⟨(.some 25), (.mov (.tmp 0)), .none⟩, ⟨(.some 26), (.ldn 3 (.tmp 4)), .none⟩, ⟨(.some 27), (.mov (.tmp 2)), .none⟩, ⟨(.some 28), (.call 28 10 [(.tmp 25), (.tmp 26), (.tmp 27)]), .none⟩, ⟨(.some 24), (.mov (.tmp 28)), .none⟩, ⟨(.some 29), (.ext (.tmp 24) 0), .none⟩, ⟨(.some 30), (.ext (.tmp 24) 1), .none⟩, ⟨(.some 7), (.mov (.tmp 29)), .none⟩, ⟨(.some 8), (.mov (.tmp 30)), .none⟩]) (.seq (.seq (.ops [⟨(.some 31), (.mov (.tmp 7)), .none⟩, ⟨(.some 32), (.len (.tmp 31)), .none⟩, ⟨(.some 33), (.mov (.const (.int .i64 0))), .none⟩]) (.block 0 (.loop (.seq (.ops [⟨(.some 34), (.bin .lss (.tmp 33) (.tmp 32)), .none⟩]) (.seq (.cond (.tmp 34) .skip (.exit 0)) (.seq (.block 1 (.seq (.ops [⟨(.some 35), (.iadr 3 (.tmp 31) (.tmp 33)), .none⟩, ⟨(.some 36), (.ldn 3 (.tmp 35)), .none⟩, ⟨(.some 10), (.alloc 10 [(.int .u64 0), (.int .u64 0), (.slice .none 0 0)]), .none⟩, ⟨.none, (.st 3 (.tmp 10) (.tmp 36)), .none⟩]) (.seq (.ops [⟨(.some 37), (.fadr 2 (.tmp 10)), .none⟩, ⟨(.some 38), (.ld (.tmp 37)), .none⟩, ⟨(.some 39), (.len (.tmp 38)), .none⟩, ⟨(.some 40), (.mov (.const (.int .i64 0))), .none⟩]) (.block 2 (.loop (.seq (.ops [⟨(.some 41), (.bin .lss (.tmp 40) (.tmp 39)), .none⟩]) (.seq (.cond (.tmp 41) .skip (.exit 2)) (.seq (.block 3 (.seq (.ops [⟨(.some 42), (.iadr 3 (.tmp 38) (.tmp 40)), .none⟩, ⟨(.some 43), (.ldn 3 (.tmp 42)), .none⟩, ⟨(.some 12), (.alloc 12 [(.int .u16 0), (.int .i64 0), (.slice .none 0 0)]), .none⟩, ⟨.none, (.st 3 (.tmp 12) (.tmp 43)), .none⟩]) (.seq (.ops [⟨(.some 44), (.fadr 0 (.tmp 12)), .none⟩, ⟨(.some 45), (.ld (.tmp 44)), .none⟩, ⟨(.some 46), (.bin .eql (.tmp 45) (.const (.int .u16 330))), .none⟩]) (.cond (.tmp 46) (.seq (.ops [⟨(.some 6), (.mov (.const (.bool true))), .none⟩]) .ret) .skip)))) (.ops [⟨(.some 47), (.bin .add (.tmp 40) (.const (.int .i64 1))), .none⟩, ⟨(.some 40), (.mov (.tmp 47)), .none⟩]))))))))) (.ops [⟨(.some 48), (.bin .add (.tmp 33) (.const (.int .i64 1))), .none⟩, ⟨(.some 33), (.mov (.tmp 48)), .none⟩]))))))) (.seq (.ops [⟨(.some 50), (.mov (.tmp 0)), .none⟩, ⟨(.some 51), (.ldn 3 (.tmp 4)), .none⟩, ⟨(.some 52), (.mov (.tmp 2)), .none⟩, ⟨(.some 53), (.call 53 6 [(.tmp 50), (.tmp 51), (.tmp 52), (.const (.int .i64 0))]), .none⟩, ⟨(.some 49), (.mov (.tmp 53)), .none⟩, ⟨(.some 54), (.ext (.tmp 49) 0), .none⟩, ⟨(.some 55), (.ext (.tmp 49) 1), .none⟩, ⟨(.some 13), (.mov (.tmp 54)), .none⟩, ⟨(.some 14), (.mov (.tmp 55)), .none⟩]) (.seq (.seq (.ops [⟨(.some 56), (.mov (.tmp 8)), .none⟩, ⟨(.some 57), (.bin .neq (.tmp 56) (.const (.int .i64 0))), .none⟩]) (.cond (.tmp 57) (.seq (.ops [⟨(.some 58), (.mov (.tmp 14)), .none⟩, ⟨(.some 59), (.bin .neq (.tmp 58) (.const (.int .i64 0))), .none⟩, ⟨(.some 60), (.mov (.tmp 59)), .none⟩, ⟨(.some 61), (.mov (.tmp 13)), (.some (60, false))⟩, ⟨(.some 62), (.len (.tmp 61)), (.some (60, false))⟩, ⟨(.some 63), (.mov (.tmp 2)), (.some (60, false))⟩, ⟨(.some 64), (.mm true (.tmp 63) [(.const (.int .i64 0))]), (.some (60, false))⟩, ⟨(.some 65), (.bin .leq (.tmp 62) (.tmp 64)), (.some (60, false))⟩, ⟨(.some 66), (.pick (.tmp 60) (.const (.bool true)) (.tmp 65)), .none⟩, ⟨(.some 6), (.mov (.tmp 66)), .none⟩]) .ret) .skip)) (.seq (.seq (.ops [⟨(.some 67), (.mov (.tmp 14)), .none⟩, ⟨(.some 68), (.bin .neq (.tmp 67) (.const (.int .i64 0))), .none⟩, ⟨(.some 69), (.mov (.tmp 68)), .none⟩, ⟨(.some 70), (.mov (.tmp 13)), (.some (69, false))⟩, ⟨(.some 71), (.len (.tmp 70)), (.some (69, false))⟩, ⟨(.some 72), (.mov (.tmp 7)), (.some (69, false))⟩, ⟨(.some 73), (.len (.tmp 72)), (.some (69, false))⟩, ⟨(.some 74), (.bin .neq (.tmp 71) (.tmp 73)), (.some (69, false))⟩, ⟨(.some 75), (.pick (.tmp 69) (.const (.bool true)) (.tmp 74)), .none⟩]) (.cond (.tmp 75) (.seq (.ops [⟨(.some 6), (.mov (.const (.bool false))), .none⟩]) .ret) .skip)) (.seq (.seq (.ops [⟨(.some 76), (.mov (.tmp 7)), .none⟩, ⟨(.some 77), (.len (.tmp 76)), .none⟩, ⟨(.some 78), (.mov (.const (.int .i64 0))), .none⟩]) (.block 4 (.loop (.seq (.ops [⟨(.some 79), (.bin .lss (.tmp 78) (.tmp 77)), .none⟩]) (.seq (.cond (.tmp 79) .skip (.exit 4)) (.seq (.block 5 (.seq (.ops [⟨(.some 80), (.mov (.tmp 78)), .none⟩, ⟨(.some 15), (.mov (.tmp 80)), .none⟩]) (.seq (.drawT (.one ⟨(.some 81), (.mov (.tmp 13)), .none⟩ false [] (.one ⟨(.some 82), (.mov (.tmp 15)), .none⟩ false [] (.one ⟨(.some 83), (.iadr 5 (.tmp 81) (.tmp 82)), .none⟩ false [] (.one ⟨(.some 84), (.fadr 0 (.tmp 83)), .none⟩ false [] (.one ⟨(.some 85), (.ld (.tmp 84)), .none⟩ false [] (.one ⟨(.some 86), (.bin .neq (.tmp 85) (.const (.int .i64 0))), .none⟩ false [] (.one ⟨(.some 87), (.mov (.tmp 86)), .none⟩ false [] (.one ⟨(.some 88), (.mov (.tmp 13)), (.some (87, false))⟩ false [] (.one ⟨(.some 89), (.mov (.tmp 15)), (.some (87, false))⟩ false [] (.one ⟨(.some 90), (.iadr 5 (.tmp 88) (.tmp 89)), (.some (87, false))⟩ false [] (.one ⟨(.some 91), (.fadr 1 (.tmp 90)), (.some (87, false))⟩ false [] (.one ⟨(.some 92), (.ld (.tmp 91)), (.some (87, false))⟩ false [] (.one ⟨(.some 93), (.bin .neq (.tmp 92) (.const (.int .i64 (-1)))), (.some (87, false))⟩ false [] (.one ⟨(.some 94), (.pick (.tmp 87) (.const (.bool true)) (.tmp 93)), .none⟩ false [] (.one ⟨(.some 95), (.mov (.tmp 94)), .none⟩ false [] (.one ⟨(.some 96), (.mov (.tmp 13)), (.some (95, false))⟩ false [] (.one ⟨(.some 97), (.mov (.tmp 15)), (.some (95, false))⟩ false [] (.one ⟨(.some 98), (.iadr 5 (.tmp 96) (.tmp 97)), (.some (95, false))⟩ false [] (.one ⟨(.some 99), (.fadr 2 (.tmp 98)), (.some (95, false))⟩ false [] (.one ⟨(.some 100), (.ldn 3 (.tmp 99)), (.some (95, false))⟩ false [] (.one ⟨(.some 102), (.mov (.tmp 7)), (.some (95, false))⟩ false [] (.one ⟨(.some 103), (.mov (.tmp 15)), (.some (95, false))⟩ false [] (.one ⟨(.some 104), (.iadr 3 (.tmp 102) (.tmp 103)), (.some (95, false))⟩ false [] (.one ⟨(.some 105), (.ldn 3 (.tmp 104)), (.some (95, false))⟩ false [] (.fork ⟨(.some 101), (.lit 3 [(.tmp 100)]), (.some (95, false))⟩ ⟨(.some 106), (.lit 3 [(.tmp 105)]), (.some (95, false))⟩ [4, 10, 12] [4, 10, 12] (.one ⟨(.some 106), (.lit 3 [(.tmp 105)]), (.some (95, false))⟩ false [4, 10, 12] (.one ⟨(.some 107), (.call 107 8 [(.tmp 101), (.tmp 106)]), (.some (95, false))⟩ false [4, 10, 12] (.one ⟨(.some 108), (.un .not (.tmp 107)), (.some (95, false))⟩ false [] (.one ⟨(.some 109), (.pick (.tmp 95) (.const (.bool true)) (.tmp 108)), .none⟩ false [] .done)))) (.one ⟨(.some 101), (.lit 3 [(.tmp 100)]), (.some (95, false))⟩ false [4, 10, 12] (.one ⟨(.some 107), (.call 107 8 [(.tmp 101), (.tmp 106)]), (.some (95, false))⟩ false [4, 10, 12] (.one ⟨(.some 108), (.un .not (.tmp 107)), (.some (95, false))⟩ false [] (.one ⟨(.some 109), (.pick (.tmp 95) (.const (.bool true)) (.tmp 108)), .none⟩ false [] .done)))))))))))))))))))))))))))))) (.cond (.tmp 109) (.seq (.ops [⟨(.some 6), (.mov (.const (.bool false))), .none⟩]) .ret) .skip)))) (.ops [⟨(.some 110), (.bin .add (.tmp 78) (.const (.int .i64 1))), .none⟩, ⟨(.some 78), (.mov (.tmp 110)), .none⟩]))))))) (.seq (.ops [⟨(.some 6), (.mov (.const (.bool true))), .none⟩]) .ret))))))))), [(6, .none)]⟩
theorem c4 : cmpF Try.prog [] [] 4 = some a4 := by kernel_rfl
theorem dr_mid {A B L : List Dr} {d : Dr} (h : L = A ++ d :: B) : (L.map dirD).getD A.length default = .agg [.c (.int .u64 d.1), .c (.int .u64 d.2.1), .lst 3 (d.2.2.map fldD)] := by
  subst h
  simp [List.getD, dirD]
theorem itO_get {l : List Dr} {i : Nat} (h : i < l.length) : ((itO l).map itD).getD i default = .agg [.c (.int .i64 0), .c (.int .i64 (-1)), .c (.int .u64 (dr l i).1), .c (.int .u64 (dr l i).2.1), .lst 3 ((dr l i).2.2.map fldD)] := by
  simp only [itO, List.map_map, List.getD, List.getElem?_map, List.getElem?_eq_getElem h, Option.map_some, Option.getD_some, Function.comp, itD, dr]
theorem treeChains_giv (y0 : List Int) (h0 : (y0.length * 1 ≤ 140737488351232 ∧ ∀ z ∈ y0, 0 ≤ z ∧ z ≤ 255)) (y1 : (Bool) × (Bool) × (Int)) (h1 : (True ∧ True ∧ (0 ≤ y1.2.2 ∧ y1.2.2 ≤ 18446744073709551615))) (y2 : Int) (h2 : (-9223372036854775808 ≤ y2 ∧ y2 ≤ 9223372036854775807)) : Giv Try.prog 4 [.lst 1 (li .u8 y0), .agg [.c (.bool y1.1), .c (.bool y1.2.1), .c (.int .u64 y1.2.2)], .c (.int .i64 y2)] (.d (.c (.bool true))) := by
  obtain ⟨big, large, first⟩ := y1
  obtain ⟨-, -, ha⟩ := h1
  dsimp only at ha ⊢
  obtain ⟨first, rfl⟩ := Int.eq_ofNat_of_zero_le ha.1
  have hf : first < 18446744073709551616 := by omega
  have hll := li_length (k := .u8) (l := y0)
  have hB : Bytes y0 := fun z hz => by have := h0.2 z hz; omega
  refine Giv.of (out := [.c (.bool true)]) mixed c4 (Nat.le_of_ble_eq_true rfl) ?_
  by_cases hb0 : y0.length > 2000
  · simp -dsimp -implicitDefEqProofs (disch := first | omega | (simp only [List.length_append, List.length_cons, List.length_nil, List.length_take, List.length_drop]; omega)) only [a4, ↓aPre, aPost, oneW, allOne, retV, retVA, simprocAttr]
    refine call_giv lives_giv ?_
    simp -dsimp -implicitDefEqProofs (disch := first | omega | (simp only [List.length_append, List.length_cons, List.length_nil, List.length_take, List.length_drop]; omega)) only [hll, ↓aPre, aPost, oneW, allOne, retV, retVA, simprocAttr]
    refine call_giv lives_giv ?_
    simp -dsimp -implicitDefEqProofs (disch := first | omega | (simp only [List.length_append, List.length_cons, List.length_nil, List.length_take, List.length_drop]; omega)) only [↓aPre, aPost, oneW, allOne, retV, retVA, simprocAttr]
    exact post_eq rfl
  have g10 := chain_giv y0 big large first y2 (by omega) hB hf
  have g6 := walk_giv y0 big large first y2 0 (by omega) hB hf h2
  obtain ⟨w1, w2, w3⟩ := walk_ok y0 big large first y2 0 hB hf
  have hwm := walk_most y0 big large first y2 0
  have hcW := chn_W (big := big) (large := large) (most := y2) hB (y0.length + 2) first [] Ok.nil (by simp)
  obtain ⟨hcs, hcs2⟩ := chn_small y0 big large y2 (y0.length + 2) first [] (fun _ h => by cases h)
  obtain ⟨C, hC⟩ : ∃ C, C = chn y0 big large y2 (y0.length + 2) first [] := ⟨_, rfl⟩
  rw [← hC] at g10 hcW hcs hcs2
  obtain ⟨l, e⟩ := C
  dsimp only at g10 hcW hcs hcs2
  have hwS : e = 0 → (∀ d ∈ l, No330 d) → walkS y0 big large first y2 0 = (itO l, 0) := fun he hno => by
    obtain ⟨r, r1, r2⟩ := hcW he
    rw [List.nil_append] at r1
    subst r1
    have := r2 hno
    rw [List.nil_append] at this
    have h3 : W y0 big large y2 0 [(first, 0, -1)] ([], []) = ((snO l, itO l), 0) := this
    rw [walkS, h3]
    rfl
  have hlen := drs_len l
  rw [hD] at g10 g6
  rw [List.length_nil, Nat.zero_add] at hcs
  simp -dsimp -implicitDefEqProofs (disch := first | omega | (simp only [List.length_append, List.length_cons, List.length_nil, List.length_take, List.length_drop]; omega)) only [a4, ↓aPre, aPost, oneW, allOne, retV, retVA, simprocAttr]
  refine call_giv lives_giv ?_
  simp -dsimp -implicitDefEqProofs (disch := first | omega | (simp only [List.length_append, List.length_cons, List.length_nil, List.length_take, List.length_drop]; omega)) only [hll, ↓aPre, aPost, oneW, allOne, retV, retVA, simprocAttr]
  refine call_giv g10 ?_
  simp -dsimp -implicitDefEqProofs (disch := first | omega | (simp only [List.length_append, List.length_cons, List.length_nil, List.length_take, List.length_drop]; omega)) only [hlen, ↓aPre, aPost, oneW, allOne, retV, retVA, simprocAttr]
  refine loop_of (fun st => ∃ A B : List Dr, l = A ++ B ∧ (∀ d ∈ A, No330 d) ∧ st.tm 33 = .d (.c (.int .i64 A.length)) ∧ st.tm 32 = .d (.c (.int .i64 l.length)) ∧ st.tm 31 = .d (.lst 3 (l.map dirD)) ∧ st.tm 7 = .d (.lst 3 (l.map dirD)) ∧ st.tm 8 = .d (.c (.int .i64 e)) ∧ st.tm 0 = .d (.lst 1 (li .u8 y0)) ∧ st.tm 2 = .d (.c (.int .i64 y2)) ∧ st.tm 4 = .ptr 4 0 ∧ st.hp 4 = some (.box [.d (.c (.bool big)), .d (.c (.bool large)), .d (.c (.int .u64 first))])) (fun st => l.length - (avN (st.tm 33)).toNat) ?_ ?_
  · refine ⟨[], l, rfl, (by intro d h; cases h), ?_⟩
    simp -dsimp -implicitDefEqProofs (disch := first | omega | (simp only [List.length_append, List.length_cons, List.length_nil, List.length_take, List.length_drop]; omega)) only [List.length_nil, Int.natCast_zero, ↓aPre, aPost, oneW, allOne, retV, retVA, simprocAttr]
  rintro st ⟨A, B, hAB, hA, hs⟩
  have hl2 : l.length = A.length + B.length := by rw [hAB, List.length_append]
  cases B with
  | cons d B =>
    rw [List.length_cons] at hl2
    have hg := dr_mid hAB
    have hsd := hcs2 d (by rw [hAB]; simp)
    have hfl : (d.2.2.map fldD).length = d.2.2.length := List.length_map ..
    have hsd1 := hsd.1
    obtain ⟨k, hk⟩ : ∃ k, k = A.length := ⟨_, rfl⟩
    rw [← hk] at hs hg hl2
    simp -dsimp -implicitDefEqProofs (disch := first | omega | (simp only [List.length_append, List.length_cons, List.length_nil, List.length_take, List.length_drop]; omega)) only [hs, hlen, hg, hfl, ↓aPre, aPost, oneW, allOne, retV, retVA, simprocAttr]
    have hs0 := hs
    refine loop_of (fun st => ∃ F1 F2 : List Fld, d.2.2 = F1 ++ F2 ∧ (∀ f ∈ F1, f.1 ≠ 330) ∧ st.tm 40 = .d (.c (.int .i64 F1.length)) ∧ st.tm 39 = .d (.c (.int .i64 d.2.2.length)) ∧ st.tm 38 = .d (.lst 3 (d.2.2.map fldD)) ∧ st.tm 33 = .d (.c (.int .i64 k)) ∧ st.tm 32 = .d (.c (.int .i64 l.length)) ∧ st.tm 31 = .d (.lst 3 (l.map dirD)) ∧ st.tm 7 = .d (.lst 3 (l.map dirD)) ∧ st.tm 8 = .d (.c (.int .i64 e)) ∧ st.tm 0 = .d (.lst 1 (li .u8 y0)) ∧ st.tm 2 = .d (.c (.int .i64 y2)) ∧ st.tm 4 = .ptr 4 0 ∧ st.hp 4 = some (.box [.d (.c (.bool big)), .d (.c (.bool large)), .d (.c (.int .u64 first))])) (fun st => d.2.2.length - (avN (st.tm 40)).toNat) ?_ ?_
    · refine ⟨[], d.2.2, rfl, (by intro d h; cases h), ?_⟩
      simp -dsimp -implicitDefEqProofs (disch := first | omega | (simp only [List.length_append, List.length_cons, List.length_nil, List.length_take, List.length_drop]; omega)) only [hs, List.length_nil, Int.natCast_zero, ↓aPre, aPost, oneW, allOne, retV, retVA, simprocAttr]
    clear hs
    rintro st2 ⟨F1, F2, hF, hF1, hs⟩
    have hfl2 : d.2.2.length = F1.length + F2.length := by rw [hF, List.length_append]
    cases F2 with
    | nil =>
      rw [List.append_nil] at hF
      rw [List.length_nil, Nat.add_zero] at hfl2
      rw [← hfl2] at hs
      have j1 : (k : Int) + 1 = ((A ++ [d]).length : Int) := by rw [List.length_append, List.length_cons, List.length_nil]; omega
      obtain ⟨k2, hk2⟩ : ∃ k2, k2 = (A ++ [d]).length := ⟨_, rfl⟩
      rw [← hk2] at j1
      simp -dsimp -implicitDefEqProofs (disch := first | omega | (simp only [List.length_append, List.length_cons, List.length_nil, List.length_take, List.length_drop]; omega)) only [hs, j1, ↓aPre, aPost, oneW, allOne, retV, retVA, simprocAttr]
      refine round_of ⟨A ++ [d], B, by rw [hAB]; simp, fun x hx => ?_, ?_⟩ ?_
      · rcases List.mem_append.1 hx with q | q
        · exact hA x q
        · simp only [List.mem_cons, List.not_mem_nil, or_false] at q
          subst q
          intro f hf
          rw [hF] at hf
          exact hF1 f hf
      · rw [← hk2]
        simp -dsimp -implicitDefEqProofs (disch := first | omega | (simp only [List.length_append, List.length_cons, List.length_nil, List.length_take, List.length_drop]; omega)) only [hs, ↓aPre, aPost, oneW, allOne, retV, retVA, simprocAttr]
      · simp -dsimp -implicitDefEqProofs (disch := first | omega | (simp only [List.length_append, List.length_cons, List.length_nil, List.length_take, List.length_drop]; omega)) only [hs, hs0, ↓aPre, aPost, oneW, allOne, retV, retVA, simprocAttr]
        omega
    | cons f F2 =>
      rw [List.length_cons] at hfl2
      have gf := fl_mid hF
      obtain ⟨i, hi⟩ : ∃ i, i = F1.length := ⟨_, rfl⟩
      rw [← hi] at hs gf hfl2
      by_cases h330 : f.1 = 330
      · simp -dsimp -implicitDefEqProofs (disch := first | omega | (simp only [List.length_append, List.length_cons, List.length_nil, List.length_take, List.length_drop]; omega)) only [hs, hfl, gf, h330, ↓aPre, aPost, oneW, allOne, retV, retVA, simprocAttr]
        exact post_eq rfl
      · have j1 : (i : Int) + 1 = ((F1 ++ [f]).length : Int) := by rw [List.length_append, List.length_cons, List.length_nil]; omega
        obtain ⟨i2, hi2⟩ : ∃ i2, i2 = (F1 ++ [f]).length := ⟨_, rfl⟩
        have hi3 : i2 = i + 1 := by rw [hi2, List.length_append, hi]; rfl
        rw [← hi2] at j1
        simp -dsimp -implicitDefEqProofs (disch := first | omega | (simp only [List.length_append, List.length_cons, List.length_nil, List.length_take, List.length_drop]; omega)) only [hs, hfl, gf, h330, j1, ↓aPre, aPost, oneW, allOne, retV, retVA, simprocAttr]
        refine round_of ⟨F1 ++ [f], F2, by rw [hF]; simp, fun x hx => ?_, ?_⟩ ?_
        · rcases List.mem_append.1 hx with q | q
          · exact hF1 x q
          · simp only [List.mem_cons, List.not_mem_nil, or_false] at q
            subst q
            exact h330
        · rw [← hi2]
          simp -dsimp -implicitDefEqProofs (disch := first | omega | (simp only [List.length_append, List.length_cons, List.length_nil, List.length_take, List.length_drop]; omega)) only [hs, ↓aPre, aPost, oneW, allOne, retV, retVA, simprocAttr]
        · simp -dsimp -implicitDefEqProofs (disch := first | omega | (simp only [List.length_append, List.length_cons, List.length_nil, List.length_take, List.length_drop]; omega)) only [hs, ↓aPre, aPost, oneW, allOne, retV, retVA, simprocAttr]
          omega
  | nil =>
    rw [List.append_nil] at hAB
    subst hAB
    by_cases he : e = 0
    rotate_left
    · obtain ⟨R, hR⟩ : ∃ R, R = walkS y0 big large first y2 0 := ⟨_, rfl⟩
      rw [← hR] at g6 hwm w2
      obtain ⟨x, er⟩ := R
      dsimp only at g6 hwm w2
      have hxl := its_len x
      by_cases her : er = 0
      · by_cases hy : y2 < 0
        · have hx0 : x.length = 0 := by omega
          have hc : (x.length : Int) ≤ 0 := by omega
          simp -dsimp -implicitDefEqProofs (disch := first | omega | (simp only [List.length_append, List.length_cons, List.length_nil, List.length_take, List.length_drop]; omega)) only [hs, ↓aPre, aPost, oneW, allOne, retV, retVA, simprocAttr]
          refine call_giv g6 ?_
          simp -dsimp -implicitDefEqProofs (disch := first | omega | (simp only [List.length_append, List.length_cons, List.length_nil, List.length_take, List.length_drop]; omega)) only [hs, he, her, hxl, hy, hc, ↓aPre, aPost, oneW, allOne, retV, retVA, simprocAttr]
          exact post_eq rfl
        · have hc : (x.length : Int) ≤ y2 := by omega
          simp -dsimp -implicitDefEqProofs (disch := first | omega | (simp only [List.length_append, List.length_cons, List.length_nil, List.length_take, List.length_drop]; omega)) only [hs, ↓aPre, aPost, oneW, allOne, retV, retVA, simprocAttr]
          refine call_giv g6 ?_
          simp -dsimp -implicitDefEqProofs (disch := first | omega | (simp only [List.length_append, List.length_cons, List.length_nil, List.length_take, List.length_drop]; omega)) only [hs, he, her, hxl, hy, hc, ↓aPre, aPost, oneW, allOne, retV, retVA, simprocAttr]
          exact post_eq rfl
      · simp -dsimp -implicitDefEqProofs (disch := first | omega | (simp only [List.length_append, List.length_cons, List.length_nil, List.length_take, List.length_drop]; omega)) only [hs, ↓aPre, aPost, oneW, allOne, retV, retVA, simprocAttr]
        refine call_giv g6 ?_
        simp -dsimp -implicitDefEqProofs (disch := first | omega | (simp only [List.length_append, List.length_cons, List.length_nil, List.length_take, List.length_drop]; omega)) only [hs, he, her, ↓aPre, aPost, oneW, allOne, retV, retVA, simprocAttr]
        exact post_eq rfl
    · subst he
      have hw := hwS rfl hA
      rw [hw] at g6
      dsimp only at g6
      have hxl := its_len (itO l)
      rw [itO_len] at hxl
      obtain ⟨X, hX⟩ : ∃ X, X = (itO l).map itD := ⟨_, rfl⟩
      rw [← hX] at g6 hxl
      simp -dsimp -implicitDefEqProofs (disch := first | omega | (simp only [List.length_append, List.length_cons, List.length_nil, List.length_take, List.length_drop]; omega)) only [hs, ↓aPre, aPost, oneW, allOne, retV, retVA, simprocAttr]
      refine call_giv g6 ?_
      simp -dsimp -implicitDefEqProofs (disch := first | omega | (simp only [List.length_append, List.length_cons, List.length_nil, List.length_take, List.length_drop]; omega)) only [hs, hlen, hxl, ↓aPre, aPost, oneW, allOne, retV, retVA, simprocAttr]
      refine loop_of (fun st => ∃ i : Nat, i ≤ l.length ∧ st.tm 78 = .d (.c (.int .i64 i)) ∧ st.tm 77 = .d (.c (.int .i64 l.length)) ∧ st.tm 13 = .d (.lst 5 X) ∧ st.tm 7 = .d (.lst 3 (l.map dirD))) (fun st => l.length - (avN (st.tm 78)).toNat) ?_ ?_
      · refine ⟨0, Nat.zero_le _, ?_⟩
        simp -dsimp -implicitDefEqProofs (disch := first | omega | (simp only [List.length_append, List.length_cons, List.length_nil, List.length_take, List.length_drop]; omega)) only [hs, ↓aPre, aPost, oneW, allOne, retV, retVA, simprocAttr]
      clear hs
      rintro st ⟨i, hi, hs⟩
      by_cases hlt : i < l.length
      · have g1 := itO_get hlt
        have g2 := dr_get hlt
        have hdm : dr l i ∈ l := by
          simp only [dr, List.getD, List.getElem?_eq_getElem hlt, Option.getD_some]
          exact List.getElem_mem hlt
        obtain ⟨d, hd⟩ : ∃ d, d = dr l i := ⟨_, rfl⟩
        rw [← hd] at g1 g2 hdm
        rw [← hX] at g1
        rw [dirD] at g2
        have hsame := dsame_giv [d] (by simp) (fun x hx => by simp only [List.mem_cons, List.not_mem_nil, or_false] at hx; subst hx; exact hcs2 x hdm)
        rw [List.map_cons, List.map_nil, dirD] at hsame
        simp -dsimp -implicitDefEqProofs (disch := first | omega | (simp only [List.length_append, List.length_cons, List.length_nil, List.length_take, List.length_drop]; omega)) only [hs, hlen, hxl, g1, g2, ↓aPre, aPost, oneW, allOne, retV, retVA, simprocAttr]
        refine ⟨?_, ?_⟩
        all_goals
          refine call_giv hsame ?_
          simp -dsimp -implicitDefEqProofs (disch := first | omega | (simp only [List.length_append, List.length_cons, List.length_nil, List.length_take, List.length_drop]; omega)) only [hs, ↓aPre, aPost, oneW, allOne, retV, retVA, simprocAttr]
          refine round_of ⟨i + 1, by omega, ?_⟩ ?_
          · simp -dsimp -implicitDefEqProofs (disch := first | omega | (simp only [List.length_append, List.length_cons, List.length_nil, List.length_take, List.length_drop]; omega)) only [hs, ↓aPre, aPost, oneW, allOne, retV, retVA, simprocAttr]
          · simp -dsimp -implicitDefEqProofs (disch := first | omega | (simp only [List.length_append, List.length_cons, List.length_nil, List.length_take, List.length_drop]; omega)) only [hs, ↓aPre, aPost, oneW, allOne, retV, retVA, simprocAttr]
            omega
      · simp -dsimp -implicitDefEqProofs (disch := first | omega | (simp only [List.length_append, List.length_cons, List.length_nil, List.length_take, List.length_drop]; omega)) only [hs, ↓aPre, aPost, oneW, allOne, retV, retVA, simprocAttr]
        exact post_eq rfl
end Go.Proofs.Ytpjnpmdmcllilaa

/- Pages: ends of lines passed over, what a page's rows are as data, a writer and a reader made. No condition but what each says. -/
import Derived.Test.YtihgplkfikpgbaaDoorWTo
set_option linter.unusedSimpArgs false
set_option linter.unusedVariables false
set_option maxRecDepth 8000
set_option maxHeartbeats 4000000
namespace Go.Proofs.YtihgplkfikpgbaaDoor
open Go.Eng Go.RowKit
def a26 : AFn := ⟨23, (.seq (.ops [⟨(.some 2), (.mov (.const (.int .i64 0))), .none⟩]) (.seq (.ops [⟨(.some 3), (.mov (.const (.int .i64 0))), .none⟩]) (.block 0 (.loop (.block 1 (.seq (.ops [⟨(.some 7), (.mov (.tmp 0)), .none⟩, ⟨(.some 8), (.callm 27 [(.tmp 7), (.const (.int .i64 1))]), .none⟩, ⟨(.some 6), (.mov (.tmp 8)), .none⟩, ⟨(.some 9), (.ext (.tmp 6) 0), .none⟩, ⟨(.some 10), (.ext (.tmp 6) 1), .none⟩, ⟨(.some 4), (.mov (.tmp 9)), .none⟩, ⟨(.some 5), (.mov (.tmp 10)), .none⟩]) (.seq (.block 2 (.seq (.ops [⟨(.some 12), (.mov (.tmp 5)), .none⟩, ⟨(.some 13), (.bin .neq (.tmp 12) (.const (.int .i64 0))), .none⟩, ⟨(.some 11), (.mov (.tmp 13)), .none⟩]) (.cond (.tmp 11) (.seq (.ops [⟨(.some 14), (.mov (.tmp 5)), .none⟩, ⟨(.some 2), (.mov (.tmp 14)), .none⟩]) .ret) (.seq (.ops [⟨(.some 16), (.mov (.tmp 4)), .none⟩, ⟨(.some 17), (.bin .eql (.tmp 16) (.const (.int .u32 0))), .none⟩, ⟨(.some 15), (.mov (.tmp 17)), .none⟩]) (.cond (.tmp 15) (.seq (.ops [⟨(.some 18), (.mov (.tmp 3)), .none⟩, ⟨(.some 19), (.bin .add (.tmp 18) (.const (.int .i64 1))), .none⟩, ⟨(.some 3), (.mov (.tmp 19)), .none⟩]) (.exit 1)) (.seq (.ops [⟨(.some 21), (.mov (.tmp 3)), .none⟩, ⟨(.some 22), (.bin .lss (.tmp 21) (.const (.int .i64 11))), .none⟩, ⟨(.some 20), (.mov (.tmp 22)), .none⟩]) (.cond (.tmp 20) (.seq (.ops [⟨(.some 2), (.mov (.const (.int .i64 3))), .none⟩]) .ret) .skip))))))) (.seq (.ops [⟨(.some 2), (.mov (.const (.int .i64 0))), .none⟩]) .ret)))))))), [(2, .none)]⟩
theorem c26 : cmpF Tryd.prog [3000027] [] 26 = some a26 := by kernel_rfl
def a29 : AFn := ⟨17, (.seq (.ops [⟨(.some 2), (.mov (.const (.bool false))), .none⟩]) (.seq (.ops [⟨(.some 6), (.mov (.tmp 0)), .none⟩, ⟨(.some 7), (.callm 45 [(.tmp 6), (.const (.int .i64 24))]), .none⟩, ⟨(.some 5), (.mov (.tmp 7)), .none⟩, ⟨(.some 8), (.ext (.tmp 5) 0), .none⟩, ⟨(.some 9), (.ext (.tmp 5) 1), .none⟩, ⟨(.some 3), (.mov (.tmp 8)), .none⟩, ⟨(.some 4), (.mov (.tmp 9)), .none⟩]) (.seq (.ops [⟨(.some 10), (.mov (.tmp 0)), .none⟩, ⟨(.some 11), (.callm 46 [(.tmp 10)]), .none⟩, ⟨(.some 12), (.bin .geq (.tmp 11) (.const (.int .i64 24))), .none⟩, ⟨(.some 13), (.mov (.tmp 12)), .none⟩, ⟨(.some 14), (.mov (.tmp 3)), (.some (13, true))⟩, ⟨(.some 15), (.bin .eql (.tmp 14) (.const (.int .u32 4097))), (.some (13, true))⟩, ⟨(.some 16), (.pick (.tmp 13) (.tmp 15) (.const (.bool false))), .none⟩, ⟨(.some 2), (.mov (.tmp 16)), .none⟩]) .ret))), [(2, .none)]⟩
theorem c29 : cmpF Tryd.prog [3000045, 3000046] [] 29 = some a29 := by kernel_rfl
def a25 : AFn := ⟨14, (.seq (.ops [⟨(.some 2), (.mov (.tmp 0)), .none⟩, ⟨(.some 3), (.isNilP true (.tmp 2)), .none⟩]) (.cond (.tmp 3) (.ops [⟨(.some 4), (.mov (.tmp 0)), .none⟩, ⟨(.some 5), (.mov (.tmp 0)), .none⟩, ⟨(.some 6), (.nilC (.tmp 5)), .none⟩, ⟨(.some 7), (.fadr 1 (.tmp 6)), .none⟩, ⟨(.some 8), (.ld (.tmp 7)), .none⟩, ⟨(.some 9), (.bin .add (.tmp 8) (.const (.int .i64 7))), .none⟩, ⟨(.some 10), (.bin .quo (.tmp 9) (.const (.int .i64 8))), .none⟩, ⟨(.some 11), (.bin .mul (.tmp 10) (.const (.int .i64 8))), .none⟩, ⟨(.some 12), (.nilC (.tmp 4)), .none⟩, ⟨(.some 13), (.fadr 1 (.tmp 12)), .none⟩, ⟨.none, (.st 1 (.tmp 13) (.tmp 11)), .none⟩]) .skip)), []⟩
theorem c25 : cmpF Tryd.prog [] [] 25 = some a25 := by kernel_rfl
def a14 : AFn := ⟨6, (.seq (.ops [⟨(.some 2), (.mov (.const (.pointer .none))), .none⟩]) (.seq (.ops [⟨(.some 3), (.mov (.tmp 0)), .none⟩, ⟨(.some 4), (.build [(.slice .none 0 0), (.int .i64 0), (.bool false)] [(2, (1, (.tmp 3)))]), .none⟩, ⟨(.some 5), (.box 5 3 (.tmp 4)), .none⟩, ⟨(.some 2), (.mov (.tmp 5)), .none⟩]) .ret)), [(2, .none)]⟩
theorem c14 : cmpF Tryd.prog [] [] 14 = some a14 := by kernel_rfl
/-- rows as data -/
def rsD (rows : List (List Int)) : List D := rows.map fun r => .lst 1 (li .i64 r)
theorem rsD_len (rows : List (List Int)) : (rsD rows).length = rows.length := List.length_map ..
theorem rsD_get {rows : List (List Int)} {i : Nat} (h : i < rows.length) : (rsD rows).getD i default = .lst 1 (li .i64 (rows.getD i [])) := by
  simp only [rsD, List.getD, List.getElem?_map, List.getElem?_eq_getElem h, Option.map_some, Option.getD_some]
theorem rsD_nil : rsD [] = [] := rfl
theorem rdrop_at {rows : List (List Int)} {k : Nat} (h : k < rows.length) : rows.drop k = rows.getD k [] :: rows.drop (k + 1) := by
  rw [List.drop_eq_getElem_cons h]
  simp only [List.getD, List.getElem?_eq_getElem h, Option.getD_some]
theorem rsD_snoc {rows : List (List Int)} {k : Nat} (h : k < rows.length) : rsD (rows.take k) ++ [.lst 1 (li .i64 (rows.getD k []))] = rsD (rows.take (k + 1)) := by
  have e : rows.take (k + 1) = rows.take k ++ [rows.getD k []] := by
    rw [List.take_add_one]
    simp only [List.getD, List.getElem?_eq_getElem h, Option.getD_some, Option.toList_some]
  rw [e, rsD, rsD, List.map_append]
  rfl
theorem rsD_tlen {rows : List (List Int)} {k : Nat} (h : k ≤ rows.length) : (rsD (rows.take k)).length = k := by
  rw [rsD_len, List.length_take]; omega
theorem rget_mem {rows : List (List Int)} {k : Nat} (h : k < rows.length) : rows.getD k [] ∈ rows := by
  simp only [List.getD, List.getElem?_eq_getElem h, Option.getD_some]
  exact List.getElem_mem _
/-- rows of a width -/
def Rws (w : Int) (rows : List (List Int)) : Prop := ∀ r ∈ rows, r.length ≤ w.toNat ∧ rightW w r (-1) = true
theorem lens_giv (r : List Int) (w : Int) (hw : 1 ≤ w ∧ w ≤ 300) (hl : r.length ≤ 300) (hR : rightW w r (-1) = true) : Giv Tryd.prog 35 [.lst 1 (li .i64 r), .c (.int .i64 w)] (retV [.lst 1 (li .i64 (lens w r)), .c (.int .i64 0)]) := by
  have h := lengths_giv r w (by omega)
  rw [lengthsD, if_neg] at h
  · exact h
  · rintro (h1 | h1 | h1)
    · omega
    · omega
    · rw [hR] at h1; cases h1
theorem lens_b (r : List Int) (w : Int) (hw : 1 ≤ w ∧ w ≤ 300) (hR : rightW w r (-1) = true) : ∀ x ∈ lens w r, 0 ≤ x ∧ x ≤ 300 := by
  intro x hx
  obtain ⟨k, hk, rfl⟩ := List.mem_iff_getElem.1 hx
  have hk2 : k < r.length + 1 := by rw [← lens_len w r]; exact hk
  have e : (lens w r)[k] = (lens w r).getD k 0 := by simp only [List.getD, List.getElem?_eq_getElem hk, Option.getD_some]
  have h1 := was_gw hR (w := w) (by omega) (k := k) (by omega)
  have h2 := gw_le hR (w := w) k
  rw [e, lens, lenK_get _ _ _ hk2, snoc_gw _ _ (by omega)]
  omega
theorem wrr_m (f : Nat → Int) (hf : Bit f) (n : Nat) (r : List Int) (w : Int) (hw : 1 ≤ w ∧ w ≤ 300) (hl : r.length ≤ 300) (hR : rightW w r (-1) = true) (hA : At f n (rowS (lens w r) 0)) (hn : n < 800000) :
    GivM Tryd.prog 17 [.ptr 2000000 0, .d coD, .d (.lst 1 (li .i64 r)), .d (.c (.int .i64 w))] [(2000000, .box [.sl 1000000 1 0 (pk f n).length, .d (.c (.int .i64 (n : Nat))), .d (.c (.bool false))]), (1000000, .row 1 (li .u8 (pk f n)))] (.d (.c (.int .i64 0))) [(2000000, .box [.sl 1000000 1 0 (pk f (n + (rowS (lens w r) 0).length)).length, .d (.c (.int .i64 ((n + (rowS (lens w r) 0).length) : Nat))), .d (.c (.bool false))]), (1000000, .row 1 (li .u8 (pk f (n + (rowS (lens w r) 0).length))))] :=
  wrow_m f hf n r w hw hl (lens w r) (lens_giv r w hw hl hR) (lens_b r w hw hR) (by rw [lens_len]; omega) hA hn
theorem newwr_m : GivM Tryd.prog 14 [.d (.c (.bool false))] [] (.ptr 5 0) [(5, .box [.d (.c (.slice none 0 0)), .d (.c (.int .i64 0)), .d (.c (.bool false))])] := by
  refine GivM.of mixed c14 (Nat.le_of_ble_eq_true rfl) rfl rfl ?_
  simp -dsimp -implicitDefEqProofs (disch := first | omega | (simp only [List.length_append, List.length_cons, List.length_nil, List.length_take, List.length_drop]; omega)) only [a14, ↓aPre, aPost, oneW, allOne, retV, retVA, simprocAttr]
  refine end_of rfl ?_
  simp -dsimp -implicitDefEqProofs (disch := first | omega | (simp only [List.length_append, List.length_cons, List.length_nil, List.length_take, List.length_drop]; omega)) only [↓aPre, aPost, oneW, allOne, retV, retVA, simprocAttr]
theorem rd1_m (l : List Int) (hl : l.length ≤ 100000) (hB : Bytes l) (q : Nat) (hq : q + 1 ≤ 8 * l.length) : GivM Tryd.prog 27 [.ptr 2000000 0, .d (.c (.int .i64 1))] [(2000000, .box [.sl 1000000 1 0 l.length, .d (.c (.int .i64 (q : Nat))), .d (.c (.bool false))]), (1000000, .row 1 (li .u8 l))] (.tup [.d (.c (.int .u32 (bt l q))), .d (.c (.int .i64 0))]) [(2000000, .box [.sl 1000000 1 0 l.length, .d (.c (.int .i64 ((q + 1) : Nat))), .d (.c (.bool false))]), (1000000, .row 1 (li .u8 l))] := by
  have h := read_m l q 1 hl hB hq (by decide)
  have e : hn (pkF l q) 1 = bt l q := by
    rw [hn, hn, pkF, if_pos (by omega), Nat.add_zero]; omega
  rw [e, Int.natCast_one] at h
  exact h
/-- noughts, at least eleven, and a one -/
theorem skip_m (l : List Int) (hl : l.length ≤ 100000) (hB : Bytes l) (p z : Nat) (hz : 11 ≤ z) (h0 : ∀ i, i < z → bt l (p + i) = 0) (h1 : bt l (p + z) = 1) (hp : p + z + 1 ≤ 8 * l.length) : GivM Tryd.prog 26 [.ptr 2000000 0] [(2000000, .box [.sl 1000000 1 0 l.length, .d (.c (.int .i64 (p : Nat))), .d (.c (.bool false))]), (1000000, .row 1 (li .u8 l))] (.d (.c (.int .i64 0))) [(2000000, .box [.sl 1000000 1 0 l.length, .d (.c (.int .i64 ((p + z + 1) : Nat))), .d (.c (.bool false))]), (1000000, .row 1 (li .u8 l))] := by
  refine GivM.of mixed c26 (Nat.le_of_ble_eq_true rfl) rfl rfl ?_
  simp -dsimp -implicitDefEqProofs (disch := first | omega | (simp only [List.length_append, List.length_cons, List.length_nil, List.length_take, List.length_drop]; omega)) only [a26, ↓aPre, aPost, oneW, allOne, retV, retVA, simprocAttr]
  refine loop_of (fun s => ∃ (k : Nat), k ≤ z ∧ s.tm 0 = .ptr 2000000 0 ∧ s.tm 3 = .d (.c (.int .i64 k)) ∧ s.hp 2000000 = some (.box [.sl 1000000 1 0 l.length, .d (.c (.int .i64 ((p + k) : Nat))), .d (.c (.bool false))]) ∧ s.hp 1000000 = some (.row 1 (li .u8 l))) (fun s => z - (avN (s.tm 3)).toNat) ?_ ?_
  · refine ⟨0, Nat.zero_le _, ?_⟩
    simp -dsimp -implicitDefEqProofs (disch := first | omega | (simp only [List.length_append, List.length_cons, List.length_nil, List.length_take, List.length_drop]; omega)) only [Int.natCast_zero, ↓aPre, aPost, oneW, allOne, retV, retVA, simprocAttr]
  rintro s ⟨k, hk, hs⟩
  have hc := rd1_m l hl hB (p + k) (by omega)
  by_cases hlt : k < z
  · rw [h0 k hlt] at hc
    simp -dsimp -implicitDefEqProofs (disch := first | omega | (simp only [List.length_append, List.length_cons, List.length_nil, List.length_take, List.length_drop]; omega)) only [hs, ↓aPre, aPost, oneW, allOne, retV, retVA, simprocAttr]
    refine call_mut hc [] rfl rfl ?_ ?_
    · simp -dsimp -implicitDefEqProofs (disch := first | omega | (simp only [List.length_append, List.length_cons, List.length_nil, List.length_take, List.length_drop]; omega)) only [hs, ↓aPre, aPost, oneW, allOne, retV, retVA, simprocAttr]
    simp -dsimp -implicitDefEqProofs (disch := first | omega | (simp only [List.length_append, List.length_cons, List.length_nil, List.length_take, List.length_drop]; omega)) only [hs, ibne_f, ibeq_t, ↓aPre, aPost, oneW, allOne, retV, retVA, simprocAttr]
    refine round_of ⟨k + 1, by omega, ?_⟩ ?_
    · simp -dsimp -implicitDefEqProofs (disch := first | omega | (simp only [List.length_append, List.length_cons, List.length_nil, List.length_take, List.length_drop]; omega)) only [hs, Nat.add_assoc, ↓aPre, aPost, oneW, allOne, retV, retVA, simprocAttr]
    · simp -dsimp -implicitDefEqProofs (disch := first | omega | (simp only [List.length_append, List.length_cons, List.length_nil, List.length_take, List.length_drop]; omega)) only [hs, ↓aPre, aPost, oneW, allOne, retV, retVA, simprocAttr]
      omega
  · obtain rfl : k = z := by omega
    rw [h1] at hc
    have hge : ¬ (k : Int) < 11 := by omega
    have h10 : ¬ (1 : Int) = 0 := by decide
    simp -dsimp -implicitDefEqProofs (disch := first | omega | (simp only [List.length_append, List.length_cons, List.length_nil, List.length_take, List.length_drop]; omega)) only [hs, ↓aPre, aPost, oneW, allOne, retV, retVA, simprocAttr]
    refine call_mut hc [] rfl rfl ?_ ?_
    · simp -dsimp -implicitDefEqProofs (disch := first | omega | (simp only [List.length_append, List.length_cons, List.length_nil, List.length_take, List.length_drop]; omega)) only [hs, ↓aPre, aPost, oneW, allOne, retV, retVA, simprocAttr]
    simp -dsimp -implicitDefEqProofs (disch := first | omega | (simp only [List.length_append, List.length_cons, List.length_nil, List.length_take, List.length_drop]; omega)) only [hs, ibne_f, ibeq_f h10, hge, ↓aPre, aPost, oneW, allOne, retV, retVA, simprocAttr]
    refine end_of rfl ?_
    simp -dsimp -implicitDefEqProofs (disch := first | omega | (simp only [List.length_append, List.length_cons, List.length_nil, List.length_take, List.length_drop]; omega)) only [hs, ↓aPre, aPost, oneW, allOne, retV, retVA, simprocAttr]
theorem ended_m (l : List Int) (hl : l.length ≤ 100000) (hB : Bytes l) (p : Nat) (hp : p ≤ 8 * l.length) (h : ¬ hn (pkF l p) 24 = 4097) : GivM Tryd.prog 29 [.ptr 2000000 0] [(2000000, .box [.sl 1000000 1 0 l.length, .d (.c (.int .i64 (p : Nat))), .d (.c (.bool false))]), (1000000, .row 1 (li .u8 l))] (.d (.c (.bool false))) [(2000000, .box [.sl 1000000 1 0 l.length, .d (.c (.int .i64 (p : Nat))), .d (.c (.bool false))]), (1000000, .row 1 (li .u8 l))] := by
  have h1 := peek_m l p 24 hl hB hp (by decide)
  have h2 := left_m l p hl hp
  have e : ((24 : Nat) : Int) = 24 := rfl
  rw [e] at h1
  refine GivM.of mixed c29 (Nat.le_of_ble_eq_true rfl) rfl rfl ?_
  simp -dsimp -implicitDefEqProofs (disch := first | omega | (simp only [List.length_append, List.length_cons, List.length_nil, List.length_take, List.length_drop]; omega)) only [a29, ↓aPre, aPost, oneW, allOne, retV, retVA, simprocAttr]
  refine call_mut h1 [] rfl rfl ?_ ?_
  · simp -dsimp -implicitDefEqProofs (disch := first | omega | (simp only [List.length_append, List.length_cons, List.length_nil, List.length_take, List.length_drop]; omega)) only [↓aPre, aPost, oneW, allOne, retV, retVA, simprocAttr]
  simp -dsimp -implicitDefEqProofs (disch := first | omega | (simp only [List.length_append, List.length_cons, List.length_nil, List.length_take, List.length_drop]; omega)) only [↓aPre, aPost, oneW, allOne, retV, retVA, simprocAttr]
  refine call_mut h2 [] rfl rfl ?_ ?_
  · simp -dsimp -implicitDefEqProofs (disch := first | omega | (simp only [List.length_append, List.length_cons, List.length_nil, List.length_take, List.length_drop]; omega)) only [↓aPre, aPost, oneW, allOne, retV, retVA, simprocAttr]
  by_cases c : 8 * (l.length : Int) - (p : Int) ≥ 24
  · simp -dsimp -implicitDefEqProofs (disch := first | omega | (simp only [List.length_append, List.length_cons, List.length_nil, List.length_take, List.length_drop]; omega)) only [c, ibeq_f h, ↓aPre, aPost, oneW, allOne, retV, retVA, simprocAttr]
    refine end_of rfl ?_
    simp -dsimp -implicitDefEqProofs (disch := first | omega | (simp only [List.length_append, List.length_cons, List.length_nil, List.length_take, List.length_drop]; omega)) only [↓aPre, aPost, oneW, allOne, retV, retVA, simprocAttr]
  · simp -dsimp -implicitDefEqProofs (disch := first | omega | (simp only [List.length_append, List.length_cons, List.length_nil, List.length_take, List.length_drop]; omega)) only [c, ibeq_f h, ↓aPre, aPost, oneW, allOne, retV, retVA, simprocAttr]
    refine end_of rfl ?_
    simp -dsimp -implicitDefEqProofs (disch := first | omega | (simp only [List.length_append, List.length_cons, List.length_nil, List.length_take, List.length_drop]; omega)) only [↓aPre, aPost, oneW, allOne, retV, retVA, simprocAttr]
theorem ralign_m (l : List Int) (hl : l.length ≤ 100000) (p : Nat) (hp : p ≤ 8 * l.length) : GivM Tryd.prog 25 [.ptr 2000000 0] [(2000000, .box [.sl 1000000 1 0 l.length, .d (.c (.int .i64 (p : Nat))), .d (.c (.bool false))]), (1000000, .row 1 (li .u8 l))] (.tup []) [(2000000, .box [.sl 1000000 1 0 l.length, .d (.c (.int .i64 (((p + 7) / 8 * 8) : Nat))), .d (.c (.bool false))]), (1000000, .row 1 (li .u8 l))] := by
  have e : ((p : Int) + 7).tdiv 8 = (((p + 7) / 8 : Nat) : Int) := by rw [Int.tdiv_eq_ediv_of_nonneg (by omega)]; omega
  obtain ⟨v, hv⟩ : ∃ v, v = (p + 7) / 8 := ⟨_, rfl⟩
  rw [← hv] at e ⊢
  have e2 : (v : Int) * 8 = ((v * 8 : Nat) : Int) := by omega
  refine GivM.of mixed c25 (Nat.le_of_ble_eq_true rfl) rfl rfl ?_
  simp -dsimp -implicitDefEqProofs (disch := first | omega | (simp only [List.length_append, List.length_cons, List.length_nil, List.length_take, List.length_drop]; omega)) only [a25, e, e2, ↓aPre, aPost, oneW, allOne, retV, retVA, simprocAttr]
  refine end_of rfl ?_
  simp -dsimp -implicitDefEqProofs (disch := first | omega | (simp only [List.length_append, List.length_cons, List.length_nil, List.length_take, List.length_drop]; omega)) only [↓aPre, aPost, oneW, allOne, retV, retVA, simprocAttr]
end Go.Proofs.YtihgplkfikpgbaaDoor

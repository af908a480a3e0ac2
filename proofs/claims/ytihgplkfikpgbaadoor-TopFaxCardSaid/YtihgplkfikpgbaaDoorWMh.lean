/- Pages by lengths, each row from a whole byte on: written, read. No condition but what each says. Pages of rows by the row above: written, read. No condition but what each says. -/
import Derived.Test.YtihgplkfikpgbaaDoorWPg
set_option linter.unusedSimpArgs false
set_option linter.unusedVariables false
set_option maxRecDepth 8000
set_option maxHeartbeats 4000000
namespace Go.Proofs.YtihgplkfikpgbaaDoor
open Go.Eng Go.RowKit
def a6 : AFn := ⟨35, (.seq (.ops [⟨(.some 4), (.mov (.const (.slice .none 0 0))), .none⟩, ⟨(.some 5), (.mov (.const (.int .i64 0))), .none⟩]) (.seq (.ops [⟨(.some 11), (.callm 14 [(.const (.bool false))]), .none⟩, ⟨(.some 12), (.call 12 15 []), .none⟩, ⟨(.some 6), (.mov (.tmp 11)), .none⟩, ⟨(.some 7), (.mov (.tmp 12)), .none⟩]) (.seq (.seq (.ops [⟨(.some 13), (.mov (.tmp 1)), .none⟩, ⟨(.some 14), (.call 14 16 [(.tmp 13)]), .none⟩, ⟨(.some 15), (.un .not (.tmp 14)), .none⟩]) (.cond (.tmp 15) (.seq (.ops [⟨(.some 4), (.mov (.const (.slice .none 0 0))), .none⟩, ⟨(.some 5), (.mov (.const (.int .i64 1))), .none⟩]) .ret) .skip)) (.seq (.seq (.ops [⟨(.some 16), (.mov (.tmp 0)), .none⟩, ⟨(.some 17), (.len (.tmp 16)), .none⟩, ⟨(.some 18), (.mov (.const (.int .i64 0))), .none⟩]) (.block 0 (.loop (.seq (.ops [⟨(.some 19), (.bin .lss (.tmp 18) (.tmp 17)), .none⟩]) (.seq (.cond (.tmp 19) .skip (.exit 0)) (.seq (.block 1 (.seq (.ops [⟨(.some 20), (.iadr 1 (.tmp 16) (.tmp 18)), .none⟩, ⟨(.some 21), (.ld (.tmp 20)), .none⟩, ⟨(.some 9), (.mov (.tmp 21)), .none⟩]) (.seq (.seq (.ops [⟨(.some 22), (.mov (.tmp 6)), .none⟩, ⟨(.some 23), (.mov (.tmp 7)), .none⟩, ⟨(.some 24), (.mov (.tmp 9)), .none⟩, ⟨(.some 25), (.mov (.tmp 1)), .none⟩, ⟨(.some 26), (.callm 17 [(.tmp 22), (.tmp 23), (.tmp 24), (.tmp 25)]), .none⟩, ⟨(.some 10), (.mov (.tmp 26)), .none⟩]) (.seq (.ops [⟨(.some 27), (.mov (.tmp 10)), .none⟩, ⟨(.some 28), (.bin .neq (.tmp 27) (.const (.int .i64 0))), .none⟩]) (.cond (.tmp 28) (.seq (.ops [⟨(.some 29), (.mov (.tmp 10)), .none⟩, ⟨(.some 4), (.mov (.const (.slice .none 0 0))), .none⟩, ⟨(.some 5), (.mov (.tmp 29)), .none⟩]) .ret) .skip))) (.ops [⟨(.some 30), (.mov (.tmp 6)), .none⟩, ⟨(.some 31), (.callm 18 [(.tmp 30)]), .none⟩])))) (.ops [⟨(.some 32), (.bin .add (.tmp 18) (.const (.int .i64 1))), .none⟩, ⟨(.some 18), (.mov (.tmp 32)), .none⟩]))))))) (.seq (.ops [⟨(.some 33), (.mov (.tmp 6)), .none⟩, ⟨(.some 34), (.callm 19 [(.tmp 33)]), .none⟩, ⟨(.some 4), (.mov (.tmp 34)), .none⟩, ⟨(.some 5), (.mov (.const (.int .i64 0))), .none⟩]) .ret))))), [(4, .none), (5, .none)]⟩
theorem c6 : cmpF Tryd.prog [3000014, 3000017, 3000018, 3000019] [] 6 = some a6 := by kernel_rfl
def a9 : AFn := ⟨45, (.seq (.ops [⟨(.some 6), (.mov (.const (.slice .none 0 0))), .none⟩, ⟨(.some 7), (.mov (.const (.int .i64 0))), .none⟩]) (.seq (.seq (.ops [⟨(.some 13), (.mov (.tmp 1)), .none⟩, ⟨(.some 14), (.call 14 16 [(.tmp 13)]), .none⟩, ⟨(.some 15), (.un .not (.tmp 14)), .none⟩, ⟨(.some 16), (.mov (.tmp 15)), .none⟩, ⟨(.some 17), (.mov (.tmp 2)), (.some (16, false))⟩, ⟨(.some 18), (.bin .lss (.tmp 17) (.const (.int .i64 0))), (.some (16, false))⟩, ⟨(.some 19), (.pick (.tmp 16) (.const (.bool true)) (.tmp 18)), .none⟩]) (.cond (.tmp 19) (.seq (.ops [⟨(.some 6), (.mov (.const (.slice .none 0 0))), .none⟩, ⟨(.some 7), (.mov (.const (.int .i64 1))), .none⟩]) .ret) .skip)) (.seq (.ops [⟨(.some 20), (.mov (.tmp 0)), .none⟩, ⟨(.some 21), (.callm 23 [(.tmp 20), (.const (.bool false))]), .none⟩, ⟨(.some 22), (.call 22 15 []), .none⟩, ⟨(.some 8), (.mov (.tmp 21)), .none⟩, ⟨(.some 9), (.mov (.tmp 22)), .none⟩]) (.seq (.ops [⟨(.some 23), (.lit0 23 1), .none⟩, ⟨(.some 10), (.mov (.tmp 23)), .none⟩]) (.seq (.seq (.ops [⟨(.some 24), (.mov (.tmp 2)), .none⟩, ⟨(.some 25), (.mov (.const (.int .i64 0))), .none⟩]) (.block 0 (.loop (.seq (.ops [⟨(.some 26), (.bin .lss (.tmp 25) (.tmp 24)), .none⟩]) (.seq (.cond (.tmp 26) .skip (.exit 0)) (.seq (.block 1 (.seq (.ops [⟨(.some 28), (.mov (.tmp 8)), .none⟩, ⟨(.some 29), (.mov (.tmp 9)), .none⟩, ⟨(.some 30), (.mov (.tmp 1)), .none⟩, ⟨(.some 31), (.callm 24 [(.tmp 28), (.tmp 29), (.tmp 30)]), .none⟩, ⟨(.some 27), (.mov (.tmp 31)), .none⟩, ⟨(.some 32), (.ext (.tmp 27) 0), .none⟩, ⟨(.some 33), (.ext (.tmp 27) 1), .none⟩, ⟨(.some 11), (.mov (.tmp 32)), .none⟩, ⟨(.some 12), (.mov (.tmp 33)), .none⟩]) (.seq (.seq (.ops [⟨(.some 34), (.mov (.tmp 12)), .none⟩, ⟨(.some 35), (.bin .neq (.tmp 34) (.const (.int .i64 0))), .none⟩]) (.cond (.tmp 35) (.seq (.ops [⟨(.some 36), (.mov (.tmp 12)), .none⟩, ⟨(.some 6), (.mov (.const (.slice .none 0 0))), .none⟩, ⟨(.some 7), (.mov (.tmp 36)), .none⟩]) .ret) .skip)) (.seq (.ops [⟨(.some 37), (.mov (.tmp 8)), .none⟩, ⟨(.some 38), (.callm 25 [(.tmp 37)]), .none⟩]) (.ops [⟨(.some 39), (.mov (.tmp 10)), .none⟩, ⟨(.some 40), (.mov (.tmp 11)), .none⟩, ⟨(.some 41), (.lit 1 [(.tmp 40)]), .none⟩, ⟨(.some 42), (.app 42 1 24 (.tmp 39) (.tmp 41)), .none⟩, ⟨(.some 10), (.mov (.tmp 42)), .none⟩]))))) (.ops [⟨(.some 43), (.bin .add (.tmp 25) (.const (.int .i64 1))), .none⟩, ⟨(.some 25), (.mov (.tmp 43)), .none⟩]))))))) (.seq (.ops [⟨(.some 44), (.mov (.tmp 10)), .none⟩, ⟨(.some 6), (.mov (.tmp 44)), .none⟩, ⟨(.some 7), (.mov (.const (.int .i64 0))), .none⟩]) .ret)))))), [(6, .none), (7, .none)]⟩
theorem c9 : cmpF Tryd.prog [3000023, 3000024, 3000025] [] 9 = some a9 := by kernel_rfl
theorem pk_0 (f : Nat → Int) : pk f 0 = [] := rfl
theorem mhenc_giv (rows : List (List Int)) (w : Int) (hw : 1 ≤ w ∧ w ≤ 300) (hR : Rws w rows) (hl : rows.length ≤ 1000) (hN : (mhS w rows 0).length < 700000) :
    Giv Tryd.prog 6 [.lst 1 (rsD rows), .c (.int .i64 w)] (retV [.lst 1 (li .u8 (pk (stream (mhS w rows 0)) (mhS w rows 0).length)), .c (.int .i64 0)]) := by
  obtain ⟨N, hNe⟩ : ∃ N, N = (mhS w rows 0).length := ⟨_, rfl⟩
  have hf : Bit (stream (mhS w rows 0)) := stream_bit (mhS_bits w rows 0)
  have hA0 := stream_at (mhS w rows 0)
  obtain ⟨f, hfe⟩ : ∃ f, f = stream (mhS w rows 0) := ⟨_, rfl⟩
  rw [← hfe] at hf hA0 ⊢
  rw [← hNe] at hN ⊢
  have hrl := rsD_len rows
  have hwr := fun (n : Nat) (r : List Int) (h1 : r.length ≤ 300) (h2 : rightW w r (-1) = true) (h3 : At f n (rowS (lens w r) 0)) (h4 : n < 800000) => wrr_m f hf n r w hw h1 h2 h3 h4
  have hnc := newc_giv
  obtain ⟨C, hC⟩ : ∃ C : List D, coD = .ref C := ⟨_, rfl⟩
  rw [hC] at hwr hnc
  have hby := fun (n : Nat) (h : n < 1000000) => bytes_m f n h
  refine Giv.of mixed c6 (Nat.le_of_ble_eq_true rfl) ?_
  simp -dsimp -implicitDefEqProofs (disch := first | omega | (simp only [List.length_append, List.length_cons, List.length_nil, List.length_take, List.length_drop]; omega)) only [a6, hrl, ↓aPre, aPost, oneW, allOne, retV, retVA, simprocAttr]
  refine call_mut newwr_m [(5, 500)] rfl rfl ?_ ?_
  · simp -dsimp -implicitDefEqProofs (disch := first | omega | (simp only [List.length_append, List.length_cons, List.length_nil, List.length_take, List.length_drop]; omega)) only [↓aPre, aPost, oneW, allOne, retV, retVA, simprocAttr]
  simp -dsimp -implicitDefEqProofs (disch := first | omega | (simp only [List.length_append, List.length_cons, List.length_nil, List.length_take, List.length_drop]; omega)) only [↓aPre, aPost, oneW, allOne, retV, retVA, simprocAttr]
  refine call_giv hnc ?_
  simp -dsimp -implicitDefEqProofs (disch := first | omega | (simp only [List.length_append, List.length_cons, List.length_nil, List.length_take, List.length_drop]; omega)) only [↓aPre, aPost, oneW, allOne, retV, retVA, simprocAttr]
  refine call_giv (fits_giv w hw) ?_
  simp -dsimp -implicitDefEqProofs (disch := first | omega | (simp only [List.length_append, List.length_cons, List.length_nil, List.length_take, List.length_drop]; omega)) only [hrl, ↓aPre, aPost, oneW, allOne, retV, retVA, simprocAttr]
  refine loop_nilB 500 0 600 1 [.d (.c (.slice none 0 0)), .d (.c (.int .i64 0)), .d (.c (.bool false))] (fun s => ∃ (k m : Nat), k ≤ rows.length ∧ At f m (mhS w (rows.drop k) m) ∧ m + (mhS w (rows.drop k) m).length = N ∧ s.tm 1 = .d (.c (.int .i64 w)) ∧ s.tm 6 = .ptr 500 0 ∧ s.tm 7 = .d (.ref C) ∧ s.tm 16 = .d (.lst 1 (rsD rows)) ∧ s.tm 17 = .d (.c (.int .i64 rows.length)) ∧ s.tm 18 = .d (.c (.int .i64 k)) ∧ s.hp 500 = some (.box [.sl 600 1 0 (pk f m).length, .d (.c (.int .i64 (m : Nat))), .d (.c (.bool false))]) ∧ s.hp 600 = some (.row 1 (li .u8 (pk f m)))) (fun s => rows.length - (avN (s.tm 18)).toNat) ?_ rfl (by decide) (by decide) ?_ ?_
  · simp -dsimp -implicitDefEqProofs (disch := first | omega | (simp only [List.length_append, List.length_cons, List.length_nil, List.length_take, List.length_drop]; omega)) only [↓aPre, aPost, oneW, allOne, retV, retVA, simprocAttr]
  · refine ⟨0, 0, Nat.zero_le _, by rw [List.drop_zero]; exact hA0, by rw [List.drop_zero, hNe, Nat.zero_add], ?_⟩
    simp -dsimp -implicitDefEqProofs (disch := first | omega | (simp only [List.length_append, List.length_cons, List.length_nil, List.length_take, List.length_drop]; omega)) only [pk_0, Int.natCast_zero, List.set_cons_zero, hrl, ↓aPre, aPost, oneW, allOne, retV, retVA, simprocAttr]
  rintro s ⟨k, m, hk, hA, hm, hs⟩
  by_cases hlt : k < rows.length
  · have hr := hR _ (rget_mem hlt)
    obtain ⟨r, hre⟩ : ∃ r, r = rows.getD k [] := ⟨_, rfl⟩
    rw [← hre] at hr
    rw [rdrop_at hlt, ← hre, mhS] at hA hm
    obtain ⟨A1, A2⟩ := hA.app
    rw [List.length_append, List.length_append] at hm
    have hc := hwr m r (by omega) hr.2 A1 (by omega)
    obtain ⟨u, hu⟩ : ∃ u, u = (rowS (lens w r) 0).length := ⟨_, rfl⟩
    rw [← hu] at A2 hm hc
    obtain ⟨A2, A3⟩ := A2.app
    rw [List.length_replicate] at A3 hm
    have e : m + u + ((m + u + 7) / 8 * 8 - (m + u)) = (m + u + 7) / 8 * 8 := by omega
    rw [e] at A3
    have hal := align_m f hf (m + u) (fun i hi => by
      have := A2 i (by rw [List.length_replicate]; omega)
      rw [this]
      simp only [List.getD, List.getElem?_replicate]
      split <;> rfl) (by omega)
    simp -dsimp -implicitDefEqProofs (disch := first | omega | (simp only [List.length_append, List.length_cons, List.length_nil, List.length_take, List.length_drop]; omega)) only [hs, hrl, rsD_get, hre.symm, ↓aPre, aPost, oneW, allOne, retV, retVA, simprocAttr]
    refine call_mut hc [(2000000, 500), (1000000, 600)] rfl rfl ?_ ?_
    · simp -dsimp -implicitDefEqProofs (disch := first | omega | (simp only [List.length_append, List.length_cons, List.length_nil, List.length_take, List.length_drop]; omega)) only [hs, ↓aPre, aPost, oneW, allOne, retV, retVA, simprocAttr]
    simp -dsimp -implicitDefEqProofs (disch := first | omega | (simp only [List.length_append, List.length_cons, List.length_nil, List.length_take, List.length_drop]; omega)) only [hs, ibne_f, ↓aPre, aPost, oneW, allOne, retV, retVA, simprocAttr]
    refine call_mut hal [(2000000, 500), (1000000, 600)] rfl rfl ?_ ?_
    · simp -dsimp -implicitDefEqProofs (disch := first | omega | (simp only [List.length_append, List.length_cons, List.length_nil, List.length_take, List.length_drop]; omega)) only [hs, ↓aPre, aPost, oneW, allOne, retV, retVA, simprocAttr]
    simp -dsimp -implicitDefEqProofs (disch := first | omega | (simp only [List.length_append, List.length_cons, List.length_nil, List.length_take, List.length_drop]; omega)) only [hs, ↓aPre, aPost, oneW, allOne, retV, retVA, simprocAttr]
    refine round_of ⟨k + 1, (m + u + 7) / 8 * 8, by omega, A3, by omega, ?_⟩ ?_
    · simp -dsimp -implicitDefEqProofs (disch := first | omega | (simp only [List.length_append, List.length_cons, List.length_nil, List.length_take, List.length_drop]; omega)) only [hs, ↓aPre, aPost, oneW, allOne, retV, retVA, simprocAttr]
    · simp -dsimp -implicitDefEqProofs (disch := first | omega | (simp only [List.length_append, List.length_cons, List.length_nil, List.length_take, List.length_drop]; omega)) only [hs, ↓aPre, aPost, oneW, allOne, retV, retVA, simprocAttr]
      omega
  · obtain rfl : k = rows.length := by omega
    rw [List.drop_length, mhS, List.length_nil, Nat.add_zero] at hm
    subst hm
    simp -dsimp -implicitDefEqProofs (disch := first | omega | (simp only [List.length_append, List.length_cons, List.length_nil, List.length_take, List.length_drop]; omega)) only [hs, ↓aPre, aPost, oneW, allOne, retV, retVA, simprocAttr]
    refine call_mut (hby m (by omega)) [(2000000, 500), (1000000, 600), (5, 700)] rfl rfl ?_ ?_
    · simp -dsimp -implicitDefEqProofs (disch := first | omega | (simp only [List.length_append, List.length_cons, List.length_nil, List.length_take, List.length_drop]; omega)) only [hs, ↓aPre, aPost, oneW, allOne, retV, retVA, simprocAttr]
    simp -dsimp -implicitDefEqProofs (disch := first | omega | (simp only [List.length_append, List.length_cons, List.length_nil, List.length_take, List.length_drop]; omega)) only [hs, take_all, ↓aPre, aPost, oneW, allOne, retV, retVA, simprocAttr]
    exact post_eq rfl
/-- what is read of a page -/
theorem mhdec_giv (rows : List (List Int)) (w : Int) (hw : 1 ≤ w ∧ w ≤ 300) (hR : Rws w rows) (hl : rows.length ≤ 1000) (hN : (mhS w rows 0).length < 700000) :
    Giv Tryd.prog 9 [.lst 1 (li .u8 (pk (stream (mhS w rows 0)) (mhS w rows 0).length)), .c (.int .i64 w), .c (.int .i64 rows.length)] (retV [.lst 1 (rsD rows), .c (.int .i64 0)]) := by
  obtain ⟨N, hNe⟩ : ∃ N, N = (mhS w rows 0).length := ⟨_, rfl⟩
  have hf : Bit (stream (mhS w rows 0)) := stream_bit (mhS_bits w rows 0)
  have hA0 := stream_at (mhS w rows 0)
  obtain ⟨f, hfe⟩ : ∃ f, f = stream (mhS w rows 0) := ⟨_, rfl⟩
  rw [← hfe] at hf hA0 ⊢
  rw [← hNe] at hN ⊢
  have hpl := pk_len f N
  have hBy := pk_bytes hf N
  have hA1 := at_bt hf (n := N) hA0 (by omega)
  obtain ⟨l, hle⟩ : ∃ l, l = pk f N := ⟨_, rfl⟩
  rw [← hle] at hpl hBy hA1 ⊢
  have hll : l.length ≤ 100000 := by omega
  have hrr := fun (n : Nat) (r : List Int) (h1 : r.length ≤ 300) (h2 : rightW w r (-1) = true) (h3 : At (bt l) n (rowS (lens w r) 0)) (h4 : n + (rowS (lens w r) 0).length ≤ 8 * l.length) => rrow_m l hll hBy n r w hw h1 h2 h3 h4
  have hnc := newc_giv
  obtain ⟨C, hC⟩ : ∃ C : List D, coD = .ref C := ⟨_, rfl⟩
  rw [hC] at hrr hnc
  have hnr := newreader_m l hll
  refine Giv.of mixed c9 (Nat.le_of_ble_eq_true rfl) ?_
  simp -dsimp -implicitDefEqProofs (disch := first | omega | (simp only [List.length_append, List.length_cons, List.length_nil, List.length_take, List.length_drop]; omega)) only [a9, ↓aPre, aPost, oneW, allOne, retV, retVA, simprocAttr]
  refine call_giv (fits_giv w hw) ?_
  simp -dsimp -implicitDefEqProofs (disch := first | omega | (simp only [List.length_append, List.length_cons, List.length_nil, List.length_take, List.length_drop]; omega)) only [↓aPre, aPost, oneW, allOne, retV, retVA, simprocAttr]
  refine call_mut hnr [(10, 500), (5, 600)] rfl rfl ?_ ?_
  · simp -dsimp -implicitDefEqProofs (disch := first | omega | (simp only [List.length_append, List.length_cons, List.length_nil, List.length_take, List.length_drop]; omega)) only [↓aPre, aPost, oneW, allOne, retV, retVA, simprocAttr]
  simp -dsimp -implicitDefEqProofs (disch := first | omega | (simp only [List.length_append, List.length_cons, List.length_nil, List.length_take, List.length_drop]; omega)) only [↓aPre, aPost, oneW, allOne, retV, retVA, simprocAttr]
  refine call_giv hnc ?_
  simp -dsimp -implicitDefEqProofs (disch := first | omega | (simp only [List.length_append, List.length_cons, List.length_nil, List.length_take, List.length_drop]; omega)) only [↓aPre, aPost, oneW, allOne, retV, retVA, simprocAttr]
  refine loop_of (fun s => ∃ (k m : Nat), k ≤ rows.length ∧ At (bt l) m (mhS w (rows.drop k) m) ∧ m + (mhS w (rows.drop k) m).length = N ∧ s.tm 1 = .d (.c (.int .i64 w)) ∧ s.tm 8 = .ptr 500 0 ∧ s.tm 9 = .d (.ref C) ∧ s.tm 10 = .sl 23 1 0 k ∧ s.tm 24 = .d (.c (.int .i64 rows.length)) ∧ s.tm 25 = .d (.c (.int .i64 k)) ∧ s.hp 23 = some (.row 1 (rsD (rows.take k))) ∧ s.hp 500 = some (.box [.sl 600 1 0 l.length, .d (.c (.int .i64 (m : Nat))), .d (.c (.bool false))]) ∧ s.hp 600 = some (.row 1 (li .u8 l))) (fun s => rows.length - (avN (s.tm 25)).toNat) ?_ ?_
  · refine ⟨0, 0, Nat.zero_le _, by rw [List.drop_zero]; exact hA1, by rw [List.drop_zero, hNe, Nat.zero_add], ?_⟩
    simp -dsimp -implicitDefEqProofs (disch := first | omega | (simp only [List.length_append, List.length_cons, List.length_nil, List.length_take, List.length_drop]; omega)) only [Int.natCast_zero, List.take_zero, rsD_nil, ↓aPre, aPost, oneW, allOne, retV, retVA, simprocAttr]
  rintro s ⟨k, m, hk, hA, hm, hs⟩
  have htl := rsD_tlen hk
  by_cases hlt : k < rows.length
  · have hr := hR _ (rget_mem hlt)
    have hsn := rsD_snoc hlt
    obtain ⟨r, hre⟩ : ∃ r, r = rows.getD k [] := ⟨_, rfl⟩
    rw [← hre] at hr hsn
    rw [rdrop_at hlt, ← hre, mhS] at hA hm
    obtain ⟨A1, A2⟩ := hA.app
    rw [List.length_append, List.length_append] at hm
    have hc := hrr m r (by omega) hr.2 A1 (by omega)
    obtain ⟨u, hu⟩ : ∃ u, u = (rowS (lens w r) 0).length := ⟨_, rfl⟩
    rw [← hu] at A2 hm hc
    obtain ⟨A2, A3⟩ := A2.app
    rw [List.length_replicate] at A3 hm
    have e : m + u + ((m + u + 7) / 8 * 8 - (m + u)) = (m + u + 7) / 8 * 8 := by omega
    rw [e] at A3
    have hal := ralign_m l hll (m + u) (by omega)
    simp -dsimp -implicitDefEqProofs (disch := first | omega | (simp only [List.length_append, List.length_cons, List.length_nil, List.length_take, List.length_drop]; omega)) only [hs, ↓aPre, aPost, oneW, allOne, retV, retVA, simprocAttr]
    refine call_mut hc [(2000000, 500), (1000000, 600)] rfl rfl ?_ ?_
    · simp -dsimp -implicitDefEqProofs (disch := first | omega | (simp only [List.length_append, List.length_cons, List.length_nil, List.length_take, List.length_drop]; omega)) only [hs, ↓aPre, aPost, oneW, allOne, retV, retVA, simprocAttr]
    simp -dsimp -implicitDefEqProofs (disch := first | omega | (simp only [List.length_append, List.length_cons, List.length_nil, List.length_take, List.length_drop]; omega)) only [hs, ibne_f, ↓aPre, aPost, oneW, allOne, retV, retVA, simprocAttr]
    refine call_mut hal [(2000000, 500), (1000000, 600)] rfl rfl ?_ ?_
    · simp -dsimp -implicitDefEqProofs (disch := first | omega | (simp only [List.length_append, List.length_cons, List.length_nil, List.length_take, List.length_drop]; omega)) only [hs, ↓aPre, aPost, oneW, allOne, retV, retVA, simprocAttr]
    simp -dsimp -implicitDefEqProofs (disch := first | omega | (simp only [List.length_append, List.length_cons, List.length_nil, List.length_take, List.length_drop]; omega)) only [hs, htl, hsn, ↓aPre, aPost, oneW, allOne, retV, retVA, simprocAttr]
    refine round_of ⟨k + 1, (m + u + 7) / 8 * 8, by omega, A3, by omega, ?_⟩ ?_
    · simp -dsimp -implicitDefEqProofs (disch := first | omega | (simp only [List.length_append, List.length_cons, List.length_nil, List.length_take, List.length_drop]; omega)) only [hs, htl, hsn, ↓aPre, aPost, oneW, allOne, retV, retVA, simprocAttr]
    · simp -dsimp -implicitDefEqProofs (disch := first | omega | (simp only [List.length_append, List.length_cons, List.length_nil, List.length_take, List.length_drop]; omega)) only [hs, ↓aPre, aPost, oneW, allOne, retV, retVA, simprocAttr]
      omega
  · obtain rfl : k = rows.length := by omega
    simp -dsimp -implicitDefEqProofs (disch := first | omega | (simp only [List.length_append, List.length_cons, List.length_nil, List.length_take, List.length_drop]; omega)) only [hs, htl, List.take_length, rsD_len, take_all, ↓aPre, aPost, oneW, allOne, retV, retVA, simprocAttr]
    exact post_eq (by rw [take_all (by rw [rsD_len]; exact Nat.le_refl _)])
end Go.Proofs.YtihgplkfikpgbaaDoor
namespace Go.Eng
open Go.RowKit
theorem loop_ghB {P : Program} {s : St} {Q : Exit → St → Prop} {x : ACode} {b : Seal (P, x, Q, s)} {tl : List Nat} {s1 : St} (hG : Gh tl s [] s1 []) (m i n es : Nat) (cs : List AV) (I : St → Prop) (μ : St → Nat) (hm : s1.hp m = some (.box cs)) (hi : cs[i]? = some (.d (.c (.slice none 0 0)))) (hne : m ≠ n) (he : 0 < es)
    (h0 : I ((s1.renew n (.row es [])).turn m (.box ((AV.killL (some n) cs).set i (.sl n es 0 0))))) (h : ∀ s, I s → awp P x (thenQ (roundW I μ s) Q) s) (hn : n < 2000000 := by decide) : loopX P x Q s b :=
  ⟨tl, s1, hG, [(some m, i, n, es)], I, μ, ⟨hne, he, hn, cs, hm, hi, h0⟩, h⟩
end Go.Eng
namespace Go.Proofs.YtihgplkfikpgbaaDoor
open Go.Eng Go.RowKit
def a8 : AFn := ⟨44, (.seq (.ops [⟨(.some 4), (.mov (.const (.slice .none 0 0))), .none⟩, ⟨(.some 5), (.mov (.const (.int .i64 0))), .none⟩]) (.seq (.seq (.ops [⟨(.some 12), (.mov (.tmp 1)), .none⟩, ⟨(.some 13), (.bin .lss (.tmp 12) (.const (.int .i64 1))), .none⟩, ⟨(.some 14), (.mov (.tmp 13)), .none⟩, ⟨(.some 15), (.mov (.tmp 1)), (.some (14, false))⟩, ⟨(.some 16), (.bin .gtr (.tmp 15) (.const (.int .i64 32768))), (.some (14, false))⟩, ⟨(.some 17), (.pick (.tmp 14) (.const (.bool true)) (.tmp 16)), .none⟩]) (.cond (.tmp 17) (.seq (.ops [⟨(.some 4), (.mov (.const (.slice .none 0 0))), .none⟩, ⟨(.some 5), (.mov (.const (.int .i64 1))), .none⟩]) .ret) .skip)) (.seq (.ops [⟨(.some 18), (.callm 14 [(.const (.bool false))]), .none⟩, ⟨(.some 19), (.call 19 15 []), .none⟩, ⟨(.some 6), (.mov (.tmp 18)), .none⟩, ⟨(.some 7), (.mov (.tmp 19)), .none⟩]) (.seq (.ops [⟨(.some 20), (.lit0 20 1), .none⟩, ⟨(.some 8), (.mov (.tmp 20)), .none⟩]) (.seq (.seq (.ops [⟨(.some 21), (.mov (.tmp 0)), .none⟩, ⟨(.some 22), (.len (.tmp 21)), .none⟩, ⟨(.some 23), (.mov (.const (.int .i64 0))), .none⟩]) (.block 0 (.loop (.seq (.ops [⟨(.some 24), (.bin .lss (.tmp 23) (.tmp 22)), .none⟩]) (.seq (.cond (.tmp 24) .skip (.exit 0)) (.seq (.block 1 (.seq (.ops [⟨(.some 25), (.iadr 1 (.tmp 21) (.tmp 23)), .none⟩, ⟨(.some 26), (.ld (.tmp 25)), .none⟩, ⟨(.some 10), (.mov (.tmp 26)), .none⟩]) (.seq (.seq (.ops [⟨(.some 27), (.mov (.tmp 6)), .none⟩, ⟨(.some 28), (.mov (.tmp 7)), .none⟩, ⟨(.some 29), (.mov (.tmp 10)), .none⟩, ⟨(.some 30), (.mov (.tmp 8)), .none⟩, ⟨(.some 31), (.mov (.tmp 1)), .none⟩, ⟨(.some 32), (.callm 21 [(.tmp 27), (.tmp 28), (.tmp 29), (.tmp 30), (.tmp 31)]), .none⟩, ⟨(.some 11), (.mov (.tmp 32)), .none⟩]) (.seq (.ops [⟨(.some 33), (.mov (.tmp 11)), .none⟩, ⟨(.some 34), (.bin .neq (.tmp 33) (.const (.int .i64 0))), .none⟩]) (.cond (.tmp 34) (.seq (.ops [⟨(.some 35), (.mov (.tmp 11)), .none⟩, ⟨(.some 4), (.mov (.const (.slice .none 0 0))), .none⟩, ⟨(.some 5), (.mov (.tmp 35)), .none⟩]) .ret) .skip))) (.ops [⟨(.some 36), (.mov (.tmp 10)), .none⟩, ⟨(.some 8), (.mov (.tmp 36)), .none⟩])))) (.ops [⟨(.some 37), (.bin .add (.tmp 23) (.const (.int .i64 1))), .none⟩, ⟨(.some 23), (.mov (.tmp 37)), .none⟩]))))))) (.seq (.ops [⟨(.some 38), (.mov (.tmp 6)), .none⟩, ⟨(.some 39), (.callm 22 [(.tmp 38), (.const (.string (strOfNums [48, 48, 48, 48, 48, 48, 48, 48, 48, 48, 48, 49])))]), .none⟩]) (.seq (.ops [⟨(.some 40), (.mov (.tmp 6)), .none⟩, ⟨(.some 41), (.callm 22 [(.tmp 40), (.const (.string (strOfNums [48, 48, 48, 48, 48, 48, 48, 48, 48, 48, 48, 49])))]), .none⟩]) (.seq (.ops [⟨(.some 42), (.mov (.tmp 6)), .none⟩, ⟨(.some 43), (.callm 19 [(.tmp 42)]), .none⟩, ⟨(.some 4), (.mov (.tmp 43)), .none⟩, ⟨(.some 5), (.mov (.const (.int .i64 0))), .none⟩]) .ret)))))))), [(4, .none), (5, .none)]⟩
theorem c8 : cmpF Tryd.prog [3000014, 3000019, 3000021, 3000022] [] 8 = some a8 := by kernel_rfl
def a11 : AFn := ⟨52, (.seq (.ops [⟨(.some 6), (.mov (.const (.slice .none 0 0))), .none⟩, ⟨(.some 7), (.mov (.const (.int .i64 0))), .none⟩]) (.seq (.seq (.ops [⟨(.some 14), (.mov (.tmp 1)), .none⟩, ⟨(.some 15), (.bin .lss (.tmp 14) (.const (.int .i64 1))), .none⟩, ⟨(.some 16), (.mov (.tmp 15)), .none⟩, ⟨(.some 17), (.mov (.tmp 1)), (.some (16, false))⟩, ⟨(.some 18), (.bin .gtr (.tmp 17) (.const (.int .i64 32768))), (.some (16, false))⟩, ⟨(.some 19), (.pick (.tmp 16) (.const (.bool true)) (.tmp 18)), .none⟩, ⟨(.some 20), (.mov (.tmp 19)), .none⟩, ⟨(.some 21), (.mov (.tmp 2)), (.some (20, false))⟩, ⟨(.some 22), (.bin .lss (.tmp 21) (.const (.int .i64 0))), (.some (20, false))⟩, ⟨(.some 23), (.pick (.tmp 20) (.const (.bool true)) (.tmp 22)), .none⟩]) (.cond (.tmp 23) (.seq (.ops [⟨(.some 6), (.mov (.const (.slice .none 0 0))), .none⟩, ⟨(.some 7), (.mov (.const (.int .i64 1))), .none⟩]) .ret) .skip)) (.seq (.ops [⟨(.some 24), (.mov (.tmp 0)), .none⟩, ⟨(.some 25), (.callm 23 [(.tmp 24), (.const (.bool false))]), .none⟩, ⟨(.some 26), (.call 26 15 []), .none⟩, ⟨(.some 8), (.mov (.tmp 25)), .none⟩, ⟨(.some 9), (.mov (.tmp 26)), .none⟩]) (.seq (.ops [⟨(.some 27), (.lit0 27 1), .none⟩, ⟨(.some 28), (.lit0 28 1), .none⟩, ⟨(.some 10), (.mov (.tmp 27)), .none⟩, ⟨(.some 11), (.mov (.tmp 28)), .none⟩]) (.seq (.seq (.ops [⟨(.some 29), (.mov (.tmp 2)), .none⟩, ⟨(.some 30), (.mov (.const (.int .i64 0))), .none⟩]) (.block 0 (.loop (.seq (.ops [⟨(.some 31), (.bin .lss (.tmp 30) (.tmp 29)), .none⟩]) (.seq (.cond (.tmp 31) .skip (.exit 0)) (.seq (.block 1 (.seq (.seq (.ops [⟨(.some 32), (.mov (.tmp 8)), .none⟩, ⟨(.some 33), (.callm 29 [(.tmp 32)]), .none⟩]) (.cond (.tmp 33) (.seq (.ops [⟨(.some 6), (.mov (.const (.slice .none 0 0))), .none⟩, ⟨(.some 7), (.mov (.const (.int .i64 2))), .none⟩]) .ret) .skip)) (.seq (.ops [⟨(.some 35), (.mov (.tmp 8)), .none⟩, ⟨(.some 36), (.mov (.tmp 9)), .none⟩, ⟨(.some 37), (.mov (.tmp 11)), .none⟩, ⟨(.some 38), (.mov (.tmp 1)), .none⟩, ⟨(.some 39), (.callm 28 [(.tmp 35), (.tmp 36), (.tmp 37), (.tmp 38)]), .none⟩, ⟨(.some 34), (.mov (.tmp 39)), .none⟩, ⟨(.some 40), (.ext (.tmp 34) 0), .none⟩, ⟨(.some 41), (.ext (.tmp 34) 1), .none⟩, ⟨(.some 12), (.mov (.tmp 40)), .none⟩, ⟨(.some 13), (.mov (.tmp 41)), .none⟩]) (.seq (.seq (.ops [⟨(.some 42), (.mov (.tmp 13)), .none⟩, ⟨(.some 43), (.bin .neq (.tmp 42) (.const (.int .i64 0))), .none⟩]) (.cond (.tmp 43) (.seq (.ops [⟨(.some 44), (.mov (.tmp 13)), .none⟩, ⟨(.some 6), (.mov (.const (.slice .none 0 0))), .none⟩, ⟨(.some 7), (.mov (.tmp 44)), .none⟩]) .ret) .skip)) (.seq (.ops [⟨(.some 45), (.mov (.tmp 10)), .none⟩, ⟨(.some 46), (.mov (.tmp 12)), .none⟩, ⟨(.some 47), (.lit 1 [(.tmp 46)]), .none⟩, ⟨(.some 48), (.app 48 1 24 (.tmp 45) (.tmp 47)), .none⟩, ⟨(.some 10), (.mov (.tmp 48)), .none⟩]) (.ops [⟨(.some 49), (.mov (.tmp 12)), .none⟩, ⟨(.some 11), (.mov (.tmp 49)), .none⟩])))))) (.ops [⟨(.some 50), (.bin .add (.tmp 30) (.const (.int .i64 1))), .none⟩, ⟨(.some 30), (.mov (.tmp 50)), .none⟩]))))))) (.seq (.ops [⟨(.some 51), (.mov (.tmp 10)), .none⟩, ⟨(.some 6), (.mov (.tmp 51)), .none⟩, ⟨(.some 7), (.mov (.const (.int .i64 0))), .none⟩]) .ret)))))), [(6, .none), (7, .none)]⟩
theorem c11 : cmpF Tryd.prog [3000023, 3000028, 3000029] [] 11 = some a11 := by kernel_rfl
/-- the row above -/
def abK (rows : List (List Int)) : Nat → List Int
  | 0 => []
  | k + 1 => rows.getD k []
theorem abK_ok {w : Int} {rows : List (List Int)} (h : Rws w rows) : ∀ {k : Nat}, k ≤ rows.length → (abK rows k).length ≤ w.toNat ∧ rightW w (abK rows k) (-1) = true
  | 0, _ => ⟨Nat.zero_le _, rfl⟩
  | k + 1, hk => h _ (rget_mem (by omega))
theorem g4enc_giv (rows : List (List Int)) (w : Int) (hw : 1 ≤ w ∧ w ≤ 300) (hR : Rws w rows) (hl : rows.length ≤ 1000) (hN : (g4S w rows []).length < 700000) :
    Giv Tryd.prog 8 [.lst 1 (rsD rows), .c (.int .i64 w)] (retV [.lst 1 (li .u8 (pk (stream (g4S w rows [])) (g4S w rows []).length)), .c (.int .i64 0)]) := by
  obtain ⟨N, hNe⟩ : ∃ N, N = (g4S w rows []).length := ⟨_, rfl⟩
  have hf : Bit (stream (g4S w rows [])) := stream_bit (g4S_bits w rows [])
  have hA0 := stream_at (g4S w rows [])
  obtain ⟨f, hfe⟩ : ∃ f, f = stream (g4S w rows []) := ⟨_, rfl⟩
  rw [← hfe] at hf hA0 ⊢
  rw [← hNe] at hN ⊢
  have hrl := rsD_len rows
  have hwr := fun (n : Nat) (r ab : List Int) (h1 : r.length ≤ 300) (h2 : rightW w r (-1) = true) (h5 : ab.length ≤ 300) (h6 : rightW w ab (-1) = true) (h3 : At f n (agR w r ab)) (h4 : n < 800000) => wag_m f hf n r ab w hw h1 h2 h5 h6 h3 h4
  have hnc := newc_giv
  obtain ⟨C, hC⟩ : ∃ C : List D, coD = .ref C := ⟨_, rfl⟩
  rw [hC] at hwr hnc
  have hby := fun (n : Nat) (h : n < 1000000) => bytes_m f n h
  have hw1 : ¬ w < 1 := by omega
  have hw2 : ¬ w > 32768 := by omega
  refine Giv.of mixed c8 (Nat.le_of_ble_eq_true rfl) ?_
  simp -dsimp -implicitDefEqProofs (disch := first | omega | (simp only [List.length_append, List.length_cons, List.length_nil, List.length_take, List.length_drop]; omega)) only [a8, hrl, hw1, hw2, ↓aPre, aPost, oneW, allOne, retV, retVA, simprocAttr]
  refine call_mut newwr_m [(5, 500)] rfl rfl ?_ ?_
  · simp -dsimp -implicitDefEqProofs (disch := first | omega | (simp only [List.length_append, List.length_cons, List.length_nil, List.length_take, List.length_drop]; omega)) only [↓aPre, aPost, oneW, allOne, retV, retVA, simprocAttr]
  simp -dsimp -implicitDefEqProofs (disch := first | omega | (simp only [List.length_append, List.length_cons, List.length_nil, List.length_take, List.length_drop]; omega)) only [↓aPre, aPost, oneW, allOne, retV, retVA, simprocAttr]
  refine call_giv hnc ?_
  simp -dsimp -implicitDefEqProofs (disch := first | omega | (simp only [List.length_append, List.length_cons, List.length_nil, List.length_take, List.length_drop]; omega)) only [hrl, ↓aPre, aPost, oneW, allOne, retV, retVA, simprocAttr]
  refine loop_ghB (Gh.ice (t := 8) (n := 20) (es := 1) (off := 0) (len := 0) (L := []) (by simp -dsimp -implicitDefEqProofs (disch := first | omega | (simp only [List.length_append, List.length_cons, List.length_nil, List.length_take, List.length_drop]; omega)) only [↓aPre, aPost, oneW, allOne, retV, retVA, simprocAttr]) (by simp -dsimp -implicitDefEqProofs (disch := first | omega | (simp only [List.length_append, List.length_cons, List.length_nil, List.length_take, List.length_drop]; omega)) only [↓aPre, aPost, oneW, allOne, retV, retVA, simprocAttr]) (by decide) (by decide)) 500 0 600 1 [.d (.c (.slice none 0 0)), .d (.c (.int .i64 0)), .d (.c (.bool false))] (fun s => ∃ (k m : Nat), k ≤ rows.length ∧ At f m (g4S w (rows.drop k) (abK rows k)) ∧ m + (g4S w (rows.drop k) (abK rows k)).length = N ∧ s.tm 1 = .d (.c (.int .i64 w)) ∧ s.tm 6 = .ptr 500 0 ∧ s.tm 7 = .d (.ref C) ∧ s.tm 8 = .d (.lst 1 (li .i64 (abK rows k))) ∧ s.tm 21 = .d (.lst 1 (rsD rows)) ∧ s.tm 22 = .d (.c (.int .i64 rows.length)) ∧ s.tm 23 = .d (.c (.int .i64 k)) ∧ s.hp 500 = some (.box [.sl 600 1 0 (pk f m).length, .d (.c (.int .i64 (m : Nat))), .d (.c (.bool false))]) ∧ s.hp 600 = some (.row 1 (li .u8 (pk f m)))) (fun s => rows.length - (avN (s.tm 23)).toNat) ?_ rfl (by decide) (by decide) ?_ ?_
  · simp -dsimp -implicitDefEqProofs (disch := first | omega | (simp only [List.length_append, List.length_cons, List.length_nil, List.length_take, List.length_drop]; omega)) only [↓aPre, aPost, oneW, allOne, retV, retVA, simprocAttr]
  · refine ⟨0, 0, Nat.zero_le _, by rw [List.drop_zero]; exact hA0, by rw [List.drop_zero, abK, hNe, Nat.zero_add], ?_⟩
    simp -dsimp -implicitDefEqProofs (disch := first | omega | (simp only [List.length_append, List.length_cons, List.length_nil, List.length_take, List.length_drop]; omega)) only [pk_0, Int.natCast_zero, List.set_cons_zero, hrl, abK, li_nil, ↓aPre, aPost, oneW, allOne, retV, retVA, simprocAttr]
  rintro s ⟨k, m, hk, hA, hm, hs⟩
  have hab := abK_ok hR hk
  by_cases hlt : k < rows.length
  · have hr := hR _ (rget_mem hlt)
    have hak : abK rows (k + 1) = rows.getD k [] := rfl
    obtain ⟨r, hre⟩ : ∃ r, r = rows.getD k [] := ⟨_, rfl⟩
    rw [← hre] at hr hak
    rw [rdrop_at hlt, ← hre, g4S, ← hak] at hA hm
    obtain ⟨A1, A2⟩ := hA.app
    rw [List.length_append] at hm
    rw [hak] at A1 hm
    rw [hak] at A2
    have hc := hwr m r (abK rows k) (by omega) hr.2 (by omega) hab.2 A1 (by omega)
    obtain ⟨u, hu⟩ : ∃ u, u = (agR w r (abK rows k)).length := ⟨_, rfl⟩
    rw [← hu] at A2 hm hc
    simp -dsimp -implicitDefEqProofs (disch := first | omega | (simp only [List.length_append, List.length_cons, List.length_nil, List.length_take, List.length_drop]; omega)) only [hs, hrl, rsD_get, hre.symm, ↓aPre, aPost, oneW, allOne, retV, retVA, simprocAttr]
    refine call_mut hc [(2000000, 500), (1000000, 600)] rfl rfl ?_ ?_
    · simp -dsimp -implicitDefEqProofs (disch := first | omega | (simp only [List.length_append, List.length_cons, List.length_nil, List.length_take, List.length_drop]; omega)) only [hs, ↓aPre, aPost, oneW, allOne, retV, retVA, simprocAttr]
    simp -dsimp -implicitDefEqProofs (disch := first | omega | (simp only [List.length_append, List.length_cons, List.length_nil, List.length_take, List.length_drop]; omega)) only [hs, ibne_f, ↓aPre, aPost, oneW, allOne, retV, retVA, simprocAttr]
    refine round_of ⟨k + 1, m + u, by omega, by rw [hak]; exact A2, by rw [hak]; omega, ?_⟩ ?_
    · simp -dsimp -implicitDefEqProofs (disch := first | omega | (simp only [List.length_append, List.length_cons, List.length_nil, List.length_take, List.length_drop]; omega)) only [hs, hak, ↓aPre, aPost, oneW, allOne, retV, retVA, simprocAttr]
    · simp -dsimp -implicitDefEqProofs (disch := first | omega | (simp only [List.length_append, List.length_cons, List.length_nil, List.length_take, List.length_drop]; omega)) only [hs, ↓aPre, aPost, oneW, allOne, retV, retVA, simprocAttr]
      omega
  · obtain rfl : k = rows.length := by omega
    rw [List.drop_length, g4S] at hA hm
    obtain ⟨A1, A2⟩ := hA.app
    rw [List.length_append, eol_len] at hm
    have hw1 := word_m f hf m eol eol_bits A1 (by rw [eol_len]; omega)
    have hw2 := word_m f hf _ eol eol_bits A2 (by rw [eol_len]; omega)
    rw [txt_eol, eol_len] at hw1 hw2
    obtain rfl : N = m + 12 + 12 := by omega
    simp -dsimp -implicitDefEqProofs (disch := first | omega | (simp only [List.length_append, List.length_cons, List.length_nil, List.length_take, List.length_drop]; omega)) only [hs, ↓aPre, aPost, oneW, allOne, retV, retVA, simprocAttr]
    refine call_mut hw1 [(2000000, 500), (1000000, 600)] rfl rfl ?_ ?_
    · simp -dsimp -implicitDefEqProofs (disch := first | omega | (simp only [List.length_append, List.length_cons, List.length_nil, List.length_take, List.length_drop]; omega)) only [hs, ↓aPre, aPost, oneW, allOne, retV, retVA, simprocAttr]
    simp -dsimp -implicitDefEqProofs (disch := first | omega | (simp only [List.length_append, List.length_cons, List.length_nil, List.length_take, List.length_drop]; omega)) only [hs, ↓aPre, aPost, oneW, allOne, retV, retVA, simprocAttr]
    refine call_mut hw2 [(2000000, 500), (1000000, 600)] rfl rfl ?_ ?_
    · simp -dsimp -implicitDefEqProofs (disch := first | omega | (simp only [List.length_append, List.length_cons, List.length_nil, List.length_take, List.length_drop]; omega)) only [hs, ↓aPre, aPost, oneW, allOne, retV, retVA, simprocAttr]
    simp -dsimp -implicitDefEqProofs (disch := first | omega | (simp only [List.length_append, List.length_cons, List.length_nil, List.length_take, List.length_drop]; omega)) only [hs, ↓aPre, aPost, oneW, allOne, retV, retVA, simprocAttr]
    refine call_mut (hby (m + 12 + 12) (by omega)) [(2000000, 500), (1000000, 600), (5, 700)] rfl rfl ?_ ?_
    · simp -dsimp -implicitDefEqProofs (disch := first | omega | (simp only [List.length_append, List.length_cons, List.length_nil, List.length_take, List.length_drop]; omega)) only [hs, ↓aPre, aPost, oneW, allOne, retV, retVA, simprocAttr]
    simp -dsimp -implicitDefEqProofs (disch := first | omega | (simp only [List.length_append, List.length_cons, List.length_nil, List.length_take, List.length_drop]; omega)) only [hs, take_all, ↓aPre, aPost, oneW, allOne, retV, retVA, simprocAttr]
    exact post_eq rfl
theorem g4dec_giv (rows : List (List Int)) (w : Int) (hw : 1 ≤ w ∧ w ≤ 300) (hR : Rws w rows) (hl : rows.length ≤ 1000) (hN : (g4S w rows []).length < 700000) :
    Giv Tryd.prog 11 [.lst 1 (li .u8 (pk (stream (g4S w rows [])) (g4S w rows []).length)), .c (.int .i64 w), .c (.int .i64 rows.length)] (retV [.lst 1 (rsD rows), .c (.int .i64 0)]) := by
  obtain ⟨N, hNe⟩ : ∃ N, N = (g4S w rows []).length := ⟨_, rfl⟩
  have hf : Bit (stream (g4S w rows [])) := stream_bit (g4S_bits w rows [])
  have hA0 := stream_at (g4S w rows [])
  obtain ⟨f, hfe⟩ : ∃ f, f = stream (g4S w rows []) := ⟨_, rfl⟩
  rw [← hfe] at hf hA0 ⊢
  rw [← hNe] at hN ⊢
  have hpl := pk_len f N
  have hBy := pk_bytes hf N
  have hA1 := at_bt hf (n := N) hA0 (by omega)
  obtain ⟨l, hle⟩ : ∃ l, l = pk f N := ⟨_, rfl⟩
  rw [← hle] at hpl hBy hA1 ⊢
  have hll : l.length ≤ 100000 := by omega
  have hrr := fun (n : Nat) (r ab : List Int) (h1 : r.length ≤ 300) (h2 : rightW w r (-1) = true) (h5 : ab.length ≤ 300) (h6 : rightW w ab (-1) = true) (h3 : At (bt l) n (agR w r ab)) (h4 : n + (agR w r ab).length ≤ 8 * l.length) => rag_m l hll hBy n r ab w hw h1 h2 h5 h6 h3 h4
  have hnc := newc_giv
  obtain ⟨C, hC⟩ : ∃ C : List D, coD = .ref C := ⟨_, rfl⟩
  rw [hC] at hrr hnc
  have hnr := newreader_m l hll
  have hw1 : ¬ w < 1 := by omega
  have hw2 : ¬ w > 32768 := by omega
  refine Giv.of mixed c11 (Nat.le_of_ble_eq_true rfl) ?_
  simp -dsimp -implicitDefEqProofs (disch := first | omega | (simp only [List.length_append, List.length_cons, List.length_nil, List.length_take, List.length_drop]; omega)) only [a11, hw1, hw2, ↓aPre, aPost, oneW, allOne, retV, retVA, simprocAttr]
  refine call_mut hnr [(10, 500), (5, 600)] rfl rfl ?_ ?_
  · simp -dsimp -implicitDefEqProofs (disch := first | omega | (simp only [List.length_append, List.length_cons, List.length_nil, List.length_take, List.length_drop]; omega)) only [↓aPre, aPost, oneW, allOne, retV, retVA, simprocAttr]
  simp -dsimp -implicitDefEqProofs (disch := first | omega | (simp only [List.length_append, List.length_cons, List.length_nil, List.length_take, List.length_drop]; omega)) only [↓aPre, aPost, oneW, allOne, retV, retVA, simprocAttr]
  refine call_giv hnc ?_
  simp -dsimp -implicitDefEqProofs (disch := first | omega | (simp only [List.length_append, List.length_cons, List.length_nil, List.length_take, List.length_drop]; omega)) only [↓aPre, aPost, oneW, allOne, retV, retVA, simprocAttr]
  refine loop_gh (Gh.ice (t := 11) (n := 28) (es := 1) (off := 0) (len := 0) (L := []) (by simp -dsimp -implicitDefEqProofs (disch := first | omega | (simp only [List.length_append, List.length_cons, List.length_nil, List.length_take, List.length_drop]; omega)) only [↓aPre, aPost, oneW, allOne, retV, retVA, simprocAttr]) (by simp -dsimp -implicitDefEqProofs (disch := first | omega | (simp only [List.length_append, List.length_cons, List.length_nil, List.length_take, List.length_drop]; omega)) only [↓aPre, aPost, oneW, allOne, retV, retVA, simprocAttr]) (by decide) (by decide)) (fun s => ∃ (k m : Nat), k ≤ rows.length ∧ At (bt l) m (g4S w (rows.drop k) (abK rows k)) ∧ m + (g4S w (rows.drop k) (abK rows k)).length = N ∧ s.tm 1 = .d (.c (.int .i64 w)) ∧ s.tm 8 = .ptr 500 0 ∧ s.tm 9 = .d (.ref C) ∧ s.tm 10 = .sl 27 1 0 k ∧ s.tm 11 = .d (.lst 1 (li .i64 (abK rows k))) ∧ s.tm 29 = .d (.c (.int .i64 rows.length)) ∧ s.tm 30 = .d (.c (.int .i64 k)) ∧ s.hp 27 = some (.row 1 (rsD (rows.take k))) ∧ s.hp 500 = some (.box [.sl 600 1 0 l.length, .d (.c (.int .i64 (m : Nat))), .d (.c (.bool false))]) ∧ s.hp 600 = some (.row 1 (li .u8 l))) (fun s => rows.length - (avN (s.tm 30)).toNat) ?_ ?_
  · refine ⟨0, 0, Nat.zero_le _, by rw [List.drop_zero]; exact hA1, by rw [List.drop_zero, abK, hNe, Nat.zero_add], ?_⟩
    simp -dsimp -implicitDefEqProofs (disch := first | omega | (simp only [List.length_append, List.length_cons, List.length_nil, List.length_take, List.length_drop]; omega)) only [Int.natCast_zero, List.take_zero, rsD_nil, abK, li_nil, ↓aPre, aPost, oneW, allOne, retV, retVA, simprocAttr]
  rintro s ⟨k, m, hk, hA, hm, hs⟩
  have hab := abK_ok hR hk
  have htl := rsD_tlen hk
  by_cases hlt : k < rows.length
  · have hr := hR _ (rget_mem hlt)
    have hak : abK rows (k + 1) = rows.getD k [] := rfl
    have hsn := rsD_snoc hlt
    obtain ⟨r, hre⟩ : ∃ r, r = rows.getD k [] := ⟨_, rfl⟩
    rw [← hre] at hr hak hsn
    rw [rdrop_at hlt, ← hre, g4S] at hA hm
    obtain ⟨A1, A2⟩ := hA.app
    rw [List.length_append] at hm
    have hc := hrr m r (abK rows k) (by omega) hr.2 (by omega) hab.2 A1 (by omega)
    have he := ended_m l hll hBy m (by omega) (no_end A1 (by omega) (agR_first hw.1 _ _))
    obtain ⟨u, hu⟩ : ∃ u, u = (agR w r (abK rows k)).length := ⟨_, rfl⟩
    rw [← hu] at A2 hm hc
    simp -dsimp -implicitDefEqProofs (disch := first | omega | (simp only [List.length_append, List.length_cons, List.length_nil, List.length_take, List.length_drop]; omega)) only [hs, ↓aPre, aPost, oneW, allOne, retV, retVA, simprocAttr]
    refine call_mut he [(2000000, 500), (1000000, 600)] rfl rfl ?_ ?_
    · simp -dsimp -implicitDefEqProofs (disch := first | omega | (simp only [List.length_append, List.length_cons, List.length_nil, List.length_take, List.length_drop]; omega)) only [hs, ↓aPre, aPost, oneW, allOne, retV, retVA, simprocAttr]
    simp -dsimp -implicitDefEqProofs (disch := first | omega | (simp only [List.length_append, List.length_cons, List.length_nil, List.length_take, List.length_drop]; omega)) only [hs, ↓aPre, aPost, oneW, allOne, retV, retVA, simprocAttr]
    refine call_mut hc [(2000000, 500), (1000000, 600)] rfl rfl ?_ ?_
    · simp -dsimp -implicitDefEqProofs (disch := first | omega | (simp only [List.length_append, List.length_cons, List.length_nil, List.length_take, List.length_drop]; omega)) only [hs, ↓aPre, aPost, oneW, allOne, retV, retVA, simprocAttr]
    simp -dsimp -implicitDefEqProofs (disch := first | omega | (simp only [List.length_append, List.length_cons, List.length_nil, List.length_take, List.length_drop]; omega)) only [hs, ibne_f, htl, hsn, ↓aPre, aPost, oneW, allOne, retV, retVA, simprocAttr]
    refine round_of ⟨k + 1, m + u, by omega, by rw [hak]; exact A2, by rw [hak]; omega, ?_⟩ ?_
    · simp -dsimp -implicitDefEqProofs (disch := first | omega | (simp only [List.length_append, List.length_cons, List.length_nil, List.length_take, List.length_drop]; omega)) only [hs, htl, hsn, hak, ↓aPre, aPost, oneW, allOne, retV, retVA, simprocAttr]
    · simp -dsimp -implicitDefEqProofs (disch := first | omega | (simp only [List.length_append, List.length_cons, List.length_nil, List.length_take, List.length_drop]; omega)) only [hs, ↓aPre, aPost, oneW, allOne, retV, retVA, simprocAttr]
      omega
  · obtain rfl : k = rows.length := by omega
    simp -dsimp -implicitDefEqProofs (disch := first | omega | (simp only [List.length_append, List.length_cons, List.length_nil, List.length_take, List.length_drop]; omega)) only [hs, htl, List.take_length, rsD_len, take_all, ↓aPre, aPost, oneW, allOne, retV, retVA, simprocAttr]
    exact post_eq (by rw [take_all (by rw [rsD_len]; exact Nat.le_refl _)])
end Go.Proofs.YtihgplkfikpgbaaDoor

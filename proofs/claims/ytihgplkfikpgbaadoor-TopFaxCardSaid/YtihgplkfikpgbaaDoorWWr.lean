/- Words written; a whole byte's end; how many bits were written; a line's end. No condition but what each says. -/
import Derived.Test.YtihgplkfikpgbaaDoorWBits
import Derived.Test.YtihgplkfikpgbaaDoorLFx
set_option linter.unusedSimpArgs false
set_option linter.unusedVariables false
set_option maxRecDepth 8000
set_option maxHeartbeats 4000000
namespace Go.Proofs.YtihgplkfikpgbaaDoor
open Go.Eng Go.RowKit
def a22 : AFn := ⟨38, (.seq (.ops [⟨(.some 4), (.mov (.const (.int .i64 0))), .none⟩]) (.seq (.seq (.ops [⟨(.some 7), (.mov (.tmp 1)), .none⟩, ⟨(.some 8), (.lenS (.tmp 7)), .none⟩, ⟨(.some 9), (.mov (.const (.int .i64 0))), .none⟩]) (.block 0 (.loop (.seq (.ops [⟨(.some 10), (.bin .lss (.tmp 9) (.tmp 8)), .none⟩]) (.seq (.cond (.tmp 10) .skip (.exit 0)) (.seq (.block 1 (.seq (.ops [⟨(.some 11), (.mov (.tmp 9)), .none⟩, ⟨(.some 5), (.mov (.tmp 11)), .none⟩]) (.seq (.ops [⟨(.some 12), (.mov (.tmp 1)), .none⟩, ⟨(.some 13), (.mov (.tmp 5)), .none⟩, ⟨(.some 14), (.idxS (.tmp 12) (.tmp 13)), .none⟩, ⟨(.some 15), (.bin .neq (.tmp 14) (.const (.int .u8 48))), .none⟩, ⟨(.some 16), (.mov (.tmp 15)), .none⟩, ⟨(.some 17), (.mov (.tmp 1)), (.some (16, true))⟩, ⟨(.some 18), (.mov (.tmp 5)), (.some (16, true))⟩, ⟨(.some 19), (.idxS (.tmp 17) (.tmp 18)), (.some (16, true))⟩, ⟨(.some 20), (.bin .neq (.tmp 19) (.const (.int .u8 49))), (.some (16, true))⟩, ⟨(.some 21), (.pick (.tmp 16) (.tmp 20) (.const (.bool false))), .none⟩]) (.cond (.tmp 21) (.seq (.ops [⟨(.some 4), (.mov (.const (.int .i64 3))), .none⟩]) .ret) .skip)))) (.ops [⟨(.some 22), (.bin .add (.tmp 9) (.const (.int .i64 1))), .none⟩, ⟨(.some 9), (.mov (.tmp 22)), .none⟩]))))))) (.seq (.seq (.ops [⟨(.some 23), (.mov (.tmp 0)), .none⟩, ⟨(.some 24), (.isNilP false (.tmp 23)), .none⟩]) (.cond (.tmp 24) (.seq (.ops [⟨(.some 4), (.mov (.const (.int .i64 1))), .none⟩]) .ret) .skip)) (.seq (.seq (.ops [⟨(.some 25), (.mov (.tmp 1)), .none⟩, ⟨(.some 26), (.lenS (.tmp 25)), .none⟩, ⟨(.some 27), (.mov (.const (.int .i64 0))), .none⟩]) (.block 2 (.loop (.seq (.ops [⟨(.some 28), (.bin .lss (.tmp 27) (.tmp 26)), .none⟩]) (.seq (.cond (.tmp 28) .skip (.exit 2)) (.seq (.block 3 (.seq (.ops [⟨(.some 29), (.mov (.tmp 27)), .none⟩, ⟨(.some 6), (.mov (.tmp 29)), .none⟩]) (.ops [⟨(.some 30), (.mov (.tmp 0)), .none⟩, ⟨(.some 31), (.mov (.tmp 1)), .none⟩, ⟨(.some 32), (.mov (.tmp 6)), .none⟩, ⟨(.some 33), (.idxS (.tmp 31) (.tmp 32)), .none⟩, ⟨(.some 34), (.bin .sub (.tmp 33) (.const (.int .u8 48))), .none⟩, ⟨(.some 35), (.cvI .u32 (.tmp 34)), .none⟩, ⟨(.some 36), (.callm 37 [(.tmp 30), (.tmp 35)]), .none⟩]))) (.ops [⟨(.some 37), (.bin .add (.tmp 27) (.const (.int .i64 1))), .none⟩, ⟨(.some 27), (.mov (.tmp 37)), .none⟩]))))))) (.seq (.ops [⟨(.some 4), (.mov (.const (.int .i64 0))), .none⟩]) .ret))))), [(4, .none)]⟩
theorem c22 : cmpF Tryd.prog [3000037] [] 22 = some a22 := by kernel_rfl
def a18 : AFn := ⟨14, (.block 0 (.loop (.seq (.seq (.ops [⟨(.some 2), (.mov (.tmp 0)), .none⟩, ⟨(.some 3), (.isNilP true (.tmp 2)), .none⟩, ⟨(.some 4), (.mov (.tmp 3)), .none⟩, ⟨(.some 5), (.mov (.tmp 0)), (.some (4, true))⟩, ⟨(.some 6), (.nilC (.tmp 5)), (.some (4, true))⟩, ⟨(.some 7), (.fadr 1 (.tmp 6)), (.some (4, true))⟩, ⟨(.some 8), (.ld (.tmp 7)), (.some (4, true))⟩, ⟨(.some 9), (.bin .rem (.tmp 8) (.const (.int .i64 8))), (.some (4, true))⟩, ⟨(.some 10), (.bin .neq (.tmp 9) (.const (.int .i64 0))), (.some (4, true))⟩, ⟨(.some 11), (.pick (.tmp 4) (.tmp 10) (.const (.bool false))), .none⟩]) (.cond (.tmp 11) .skip (.exit 0))) (.block 1 (.ops [⟨(.some 12), (.mov (.tmp 0)), .none⟩, ⟨(.some 13), (.callm 37 [(.tmp 12), (.const (.int .u32 0))]), .none⟩]))))), []⟩
theorem c18 : cmpF Tryd.prog [3000037] [] 18 = some a18 := by kernel_rfl
def a38 : AFn := ⟨9, (.seq (.ops [⟨(.some 2), (.mov (.const (.int .i64 0))), .none⟩]) (.seq (.seq (.ops [⟨(.some 3), (.mov (.tmp 0)), .none⟩, ⟨(.some 4), (.isNilP false (.tmp 3)), .none⟩]) (.cond (.tmp 4) (.seq (.ops [⟨(.some 2), (.mov (.const (.int .i64 0))), .none⟩]) .ret) .skip)) (.seq (.ops [⟨(.some 5), (.mov (.tmp 0)), .none⟩, ⟨(.some 6), (.nilC (.tmp 5)), .none⟩, ⟨(.some 7), (.fadr 1 (.tmp 6)), .none⟩, ⟨(.some 8), (.ld (.tmp 7)), .none⟩, ⟨(.some 2), (.mov (.tmp 8)), .none⟩]) .ret))), [(2, .none)]⟩
theorem c38 : cmpF Tryd.prog [] [] 38 = some a38 := by kernel_rfl
/-- the number in a box -/
def bxN (o : Option Ob) (i : Nat) : Int := match o with
  | some (.box cs) => avN (cs.getD i .any)
  | _ => 0
theorem bxN_b {cs : List AV} {i : Nat} : bxN (some (.box cs)) i = avN (cs.getD i .any) := rfl
/-- a word's text -/
def txt (L : List Int) : List Int := L.map (48 + ·)
theorem txt_len (L : List Int) : (txt L).length = L.length := List.length_map ..
theorem txt_get {L : List Int} {k : Nat} (h : k < L.length) : (txt L).getD k 0 = 48 + L.getD k 0 := by
  simp only [txt, List.getD, List.getElem?_map, List.getElem?_eq_getElem h, Option.map_some, Option.getD_some]
theorem Bits.get {L : List Int} (h : Bits L) (k : Nat) : L.getD k 0 = 0 ∨ L.getD k 0 = 1 := stream_bit h k
theorem txt_bytes {L : List Int} (h : Bits L) : Bytes (txt L) := fun z hz => by
  obtain ⟨x, hx, rfl⟩ := List.mem_map.1 hz
  rcases h x hx with rfl | rfl <;> decide
theorem word_m (f : Nat → Int) (hf : Bit f) (n : Nat) (L : List Int) (hL : Bits L) (hA : At f n L) (hn : n + L.length < 1000000) : GivM Tryd.prog 22 [.ptr 2000000 0, .d (.c (.string (strOfNums (txt L))))] [(2000000, .box [.sl 1000000 1 0 (pk f n).length, .d (.c (.int .i64 (n : Nat))), .d (.c (.bool false))]), (1000000, .row 1 (li .u8 (pk f n)))] (.d (.c (.int .i64 0)))
    [(2000000, .box [.sl 1000000 1 0 (pk f (n + L.length)).length, .d (.c (.int .i64 ((n + L.length) : Nat))), .d (.c (.bool false))]), (1000000, .row 1 (li .u8 (pk f (n + L.length))))] := by
  have hb := txt_bytes hL
  have hl := txt_len L
  refine GivM.of mixed c22 (Nat.le_of_ble_eq_true rfl) rfl rfl ?_
  simp -dsimp -implicitDefEqProofs (disch := first | omega | (simp only [List.length_append, List.length_cons, List.length_nil, List.length_take, List.length_drop]; omega)) only [a22, hl, ↓aPre, aPost, oneW, allOne, retV, retVA, simprocAttr]
  refine loop_of (fun s => ∃ (k : Nat), k ≤ L.length ∧ s.tm 9 = .d (.c (.int .i64 k)) ∧ s.tm 8 = .d (.c (.int .i64 L.length)) ∧ s.tm 0 = .ptr 2000000 0 ∧ s.tm 1 = .d (.c (.string (strOfNums (txt L)))) ∧ s.hp 2000000 = some (.box [.sl 1000000 1 0 (pk f n).length, .d (.c (.int .i64 (n : Nat))), .d (.c (.bool false))]) ∧ s.hp 1000000 = some (.row 1 (li .u8 (pk f n)))) (fun s => L.length - (avN (s.tm 9)).toNat) ?_ ?_
  · refine ⟨0, Nat.zero_le _, ?_⟩
    simp -dsimp -implicitDefEqProofs (disch := first | omega | (simp only [List.length_append, List.length_cons, List.length_nil, List.length_take, List.length_drop]; omega)) only [Int.natCast_zero, ↓aPre, aPost, oneW, allOne, retV, retVA, simprocAttr]
  rintro s ⟨k, hk, hs⟩
  by_cases hlt : k < L.length
  · have hg := txt_get hlt
    have hz := hL.get k
    obtain ⟨z, hze⟩ : ∃ z, z = L.getD k 0 := ⟨_, rfl⟩
    rw [← hze] at hg hz
    rcases hz with rfl | rfl
    · simp -dsimp -implicitDefEqProofs (disch := first | omega | (simp only [List.length_append, List.length_cons, List.length_nil, List.length_take, List.length_drop]; omega)) only [hs, str_get hb, hl, hg, ibne_f, ↓aPre, aPost, oneW, allOne, retV, retVA, simprocAttr]
      refine round_of ⟨k + 1, by omega, ?_⟩ ?_
      · simp -dsimp -implicitDefEqProofs (disch := first | omega | (simp only [List.length_append, List.length_cons, List.length_nil, List.length_take, List.length_drop]; omega)) only [hs, ↓aPre, aPost, oneW, allOne, retV, retVA, simprocAttr]
      · simp -dsimp -implicitDefEqProofs (disch := first | omega | (simp only [List.length_append, List.length_cons, List.length_nil, List.length_take, List.length_drop]; omega)) only [hs, ↓aPre, aPost, oneW, allOne, retV, retVA, simprocAttr]
        omega
    · simp -dsimp -implicitDefEqProofs (disch := first | omega | (simp only [List.length_append, List.length_cons, List.length_nil, List.length_take, List.length_drop]; omega)) only [hs, str_get hb, hl, hg, ibne_t, ibne_f, ↓aPre, aPost, oneW, allOne, retV, retVA, simprocAttr]
      refine round_of ⟨k + 1, by omega, ?_⟩ ?_
      · simp -dsimp -implicitDefEqProofs (disch := first | omega | (simp only [List.length_append, List.length_cons, List.length_nil, List.length_take, List.length_drop]; omega)) only [hs, ↓aPre, aPost, oneW, allOne, retV, retVA, simprocAttr]
      · simp -dsimp -implicitDefEqProofs (disch := first | omega | (simp only [List.length_append, List.length_cons, List.length_nil, List.length_take, List.length_drop]; omega)) only [hs, ↓aPre, aPost, oneW, allOne, retV, retVA, simprocAttr]
        omega
  · obtain rfl : k = L.length := by omega
    simp -dsimp -implicitDefEqProofs (disch := first | omega | (simp only [List.length_append, List.length_cons, List.length_nil, List.length_take, List.length_drop]; omega)) only [hs, hl, ↓aPre, aPost, oneW, allOne, retV, retVA, simprocAttr]
    refine loop_of (fun s => ∃ (k : Nat), k ≤ L.length ∧ s.tm 27 = .d (.c (.int .i64 k)) ∧ s.tm 26 = .d (.c (.int .i64 L.length)) ∧ s.tm 0 = .ptr 2000000 0 ∧ s.tm 23 = .ptr 2000000 0 ∧ s.tm 1 = .d (.c (.string (strOfNums (txt L)))) ∧ s.hp 2000000 = some (.box [.sl 1000000 1 0 (pk f (n + k)).length, .d (.c (.int .i64 ((n + k) : Nat))), .d (.c (.bool false))]) ∧ s.hp 1000000 = some (.row 1 (li .u8 (pk f (n + k))))) (fun s => L.length - (avN (s.tm 27)).toNat) ?_ ?_
    · refine ⟨0, Nat.zero_le _, ?_⟩
      simp -dsimp -implicitDefEqProofs (disch := first | omega | (simp only [List.length_append, List.length_cons, List.length_nil, List.length_take, List.length_drop]; omega)) only [hs, Int.natCast_zero, ↓aPre, aPost, oneW, allOne, retV, retVA, simprocAttr]
    clear hs
    rintro s ⟨k, hk, hs⟩
    by_cases hlt : k < L.length
    · have hg := txt_get hlt
      have hz := hL.get k
      have hpm := put_m f hf (n + k) (by omega)
      rw [hA k hlt] at hpm
      obtain ⟨z, hze⟩ : ∃ z, z = L.getD k 0 := ⟨_, rfl⟩
      rw [← hze] at hg hz hpm
      have e1 : 48 + z - 48 = z := by omega
      simp -dsimp -implicitDefEqProofs (disch := first | omega | (simp only [List.length_append, List.length_cons, List.length_nil, List.length_take, List.length_drop]; omega)) only [hs, str_get hb, hl, hg, e1, ↓aPre, aPost, oneW, allOne, retV, retVA, simprocAttr]
      refine call_mut hpm [] rfl rfl ?_ ?_
      · simp -dsimp -implicitDefEqProofs (disch := first | omega | (simp only [List.length_append, List.length_cons, List.length_nil, List.length_take, List.length_drop]; omega)) only [hs, ↓aPre, aPost, oneW, allOne, retV, retVA, simprocAttr]
      simp -dsimp -implicitDefEqProofs (disch := first | omega | (simp only [List.length_append, List.length_cons, List.length_nil, List.length_take, List.length_drop]; omega)) only [hs, ↓aPre, aPost, oneW, allOne, retV, retVA, simprocAttr]
      refine round_of ⟨k + 1, by omega, ?_⟩ ?_
      · simp -dsimp -implicitDefEqProofs (disch := first | omega | (simp only [List.length_append, List.length_cons, List.length_nil, List.length_take, List.length_drop]; omega)) only [hs, Nat.add_assoc, ↓aPre, aPost, oneW, allOne, retV, retVA, simprocAttr]
      · simp -dsimp -implicitDefEqProofs (disch := first | omega | (simp only [List.length_append, List.length_cons, List.length_nil, List.length_take, List.length_drop]; omega)) only [hs, ↓aPre, aPost, oneW, allOne, retV, retVA, simprocAttr]
        omega
    · obtain rfl : k = L.length := by omega
      simp -dsimp -implicitDefEqProofs (disch := first | omega | (simp only [List.length_append, List.length_cons, List.length_nil, List.length_take, List.length_drop]; omega)) only [hs, ↓aPre, aPost, oneW, allOne, retV, retVA, simprocAttr]
      refine end_of rfl ?_
      simp -dsimp -implicitDefEqProofs (disch := first | omega | (simp only [List.length_append, List.length_cons, List.length_nil, List.length_take, List.length_drop]; omega)) only [hs, ↓aPre, aPost, oneW, allOne, retV, retVA, simprocAttr]
/-- up to the end of a byte come noughts -/
theorem align_m (f : Nat → Int) (hf : Bit f) (n : Nat) (hA : ∀ i, n + i < (n + 7) / 8 * 8 → f (n + i) = 0) (hn : n < 999000) : GivM Tryd.prog 18 [.ptr 2000000 0] [(2000000, .box [.sl 1000000 1 0 (pk f n).length, .d (.c (.int .i64 (n : Nat))), .d (.c (.bool false))]), (1000000, .row 1 (li .u8 (pk f n)))] (.tup []) [(2000000, .box [.sl 1000000 1 0 (pk f ((n + 7) / 8 * 8)).length, .d (.c (.int .i64 (((n + 7) / 8 * 8) : Nat))), .d (.c (.bool false))]), (1000000, .row 1 (li .u8 (pk f ((n + 7) / 8 * 8))))] := by
  refine GivM.of mixed c18 (Nat.le_of_ble_eq_true rfl) rfl rfl ?_
  simp -dsimp -implicitDefEqProofs (disch := first | omega | (simp only [List.length_append, List.length_cons, List.length_nil, List.length_take, List.length_drop]; omega)) only [a18, ↓aPre, aPost, oneW, allOne, retV, retVA, simprocAttr]
  refine loop_of (fun s => ∃ (k : Nat), n + k ≤ (n + 7) / 8 * 8 ∧ s.tm 0 = .ptr 2000000 0 ∧ s.hp 2000000 = some (.box [.sl 1000000 1 0 (pk f (n + k)).length, .d (.c (.int .i64 ((n + k) : Nat))), .d (.c (.bool false))]) ∧ s.hp 1000000 = some (.row 1 (li .u8 (pk f (n + k))))) (fun s => 1000000 - (bxN (s.hp 2000000) 1).toNat) ?_ ?_
  · refine ⟨0, by omega, ?_⟩
    simp -dsimp -implicitDefEqProofs (disch := first | omega | (simp only [List.length_append, List.length_cons, List.length_nil, List.length_take, List.length_drop]; omega)) only [↓aPre, aPost, oneW, allOne, retV, retVA, simprocAttr]
  rintro s ⟨k, hk, hs⟩
  have hmod : ((n : Int) + (k : Int)).tmod 8 = (((n + k) % 8 : Nat) : Int) := by rw [Int.tmod_eq_emod_of_nonneg (by omega)]; omega
  have hav : (bxN (s.hp 2000000) 1).toNat = n + k := by
    rw [hs.2.1]
    rfl
  by_cases hlt : n + k < (n + 7) / 8 * 8
  · have hne : ¬ (((n + k) % 8 : Nat) : Int) = 0 := by omega
    have hpm := put_m f hf (n + k) (by omega)
    rw [hA k hlt] at hpm
    simp -dsimp -implicitDefEqProofs (disch := first | omega | (simp only [List.length_append, List.length_cons, List.length_nil, List.length_take, List.length_drop]; omega)) only [hs, hmod, ibne_t hne, ↓aPre, aPost, oneW, allOne, retV, retVA, simprocAttr]
    refine call_mut hpm [] rfl rfl ?_ ?_
    · simp -dsimp -implicitDefEqProofs (disch := first | omega | (simp only [List.length_append, List.length_cons, List.length_nil, List.length_take, List.length_drop]; omega)) only [hs, ↓aPre, aPost, oneW, allOne, retV, retVA, simprocAttr]
    simp -dsimp -implicitDefEqProofs (disch := first | omega | (simp only [List.length_append, List.length_cons, List.length_nil, List.length_take, List.length_drop]; omega)) only [hs, ↓aPre, aPost, oneW, allOne, retV, retVA, simprocAttr]
    refine round_of ⟨k + 1, by omega, ?_⟩ ?_
    · simp -dsimp -implicitDefEqProofs (disch := first | omega | (simp only [List.length_append, List.length_cons, List.length_nil, List.length_take, List.length_drop]; omega)) only [hs, Nat.add_assoc, ↓aPre, aPost, oneW, allOne, retV, retVA, simprocAttr]
    · simp -dsimp -implicitDefEqProofs (disch := first | omega | (simp only [List.length_append, List.length_cons, List.length_nil, List.length_take, List.length_drop]; omega)) only [hs, bxN_b, ↓aPre, aPost, oneW, allOne, retV, retVA, simprocAttr]
      omega
  · have e : n + k = (n + 7) / 8 * 8 := by omega
    have hz : (((n + k) % 8 : Nat) : Int) = 0 := by omega
    simp -dsimp -implicitDefEqProofs (disch := first | omega | (simp only [List.length_append, List.length_cons, List.length_nil, List.length_take, List.length_drop]; omega)) only [hs, hmod, ibne_f hz, ↓aPre, aPost, oneW, allOne, retV, retVA, simprocAttr]
    refine end_of rfl ?_
    rw [← e]
    simp -dsimp -implicitDefEqProofs (disch := first | omega | (simp only [List.length_append, List.length_cons, List.length_nil, List.length_take, List.length_drop]; omega)) only [hs, ↓aPre, aPost, oneW, allOne, retV, retVA, simprocAttr]
theorem len_m (f : Nat → Int) (n : Nat) : GivM Tryd.prog 38 [.ptr 2000000 0] [(2000000, .box [.sl 1000000 1 0 (pk f n).length, .d (.c (.int .i64 (n : Nat))), .d (.c (.bool false))]), (1000000, .row 1 (li .u8 (pk f n)))] (.d (.c (.int .i64 n))) [(2000000, .box [.sl 1000000 1 0 (pk f n).length, .d (.c (.int .i64 (n : Nat))), .d (.c (.bool false))]), (1000000, .row 1 (li .u8 (pk f n)))] := by
  refine GivM.of mixed c38 (Nat.le_of_ble_eq_true rfl) rfl rfl ?_
  simp -dsimp -implicitDefEqProofs (disch := first | omega | (simp only [List.length_append, List.length_cons, List.length_nil, List.length_take, List.length_drop]; omega)) only [a38, ↓aPre, aPost, oneW, allOne, retV, retVA, simprocAttr]
  refine end_of rfl ?_
  simp -dsimp -implicitDefEqProofs (disch := first | omega | (simp only [List.length_append, List.length_cons, List.length_nil, List.length_take, List.length_drop]; omega)) only [↓aPre, aPost, oneW, allOne, retV, retVA, simprocAttr]
end Go.Proofs.YtihgplkfikpgbaaDoor

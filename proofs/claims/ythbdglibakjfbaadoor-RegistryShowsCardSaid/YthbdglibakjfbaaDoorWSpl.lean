/- Texts joined by a byte, ranged over by strings.SplitSeq; the fields of a line; a number's text. No condition but what each says. -/
import Derived.Test.YthbdglibakjfbaaDoorWSeq
import Derived.Test.YthbdglibakjfbaaDoorLRu
set_option linter.unusedSimpArgs false
set_option linter.unusedVariables false
set_option maxRecDepth 8000
set_option maxHeartbeats 4000000
set_option linter.unusedSectionVars false
namespace Go.Proofs.YthbdglibakjfbaaDoor
open Go.Eng Go.RowKit
variable [Inhabited Lo]
theorem mixed : Tryd.prog.follows .mixedOrders = true := by kernel_rfl
def a16 : AFn := ⟨8, (.seq (.ops [⟨(.some 4), (.mov (.const .nilFunc)), .none⟩]) (.seq (.ops [⟨(.some 5), (.mov (.tmp 0)), .none⟩, ⟨(.some 6), (.mov (.tmp 1)), .none⟩, ⟨(.some 7), (.callm 30 [(.tmp 5), (.tmp 6), (.const (.int .i64 0))]), .none⟩, ⟨(.some 4), (.mov (.tmp 7)), .none⟩]) .ret)), [(4, .none)]⟩
theorem c16 : cmpF Tryd.prog [3000030] [] 16 = some a16 := by kernel_rfl
def a30 : AFn := ⟨8, (.seq (.ops [⟨(.some 3), (.box 3 1 (.tmp 0)), .none⟩, ⟨(.some 4), (.box 4 1 (.tmp 1)), .none⟩, ⟨(.some 5), (.box 5 1 (.tmp 2)), .none⟩, ⟨(.some 6), (.mov (.const .nilFunc)), .none⟩]) (.seq (.ops [⟨(.some 7), (.mkfn 47 [(.tmp 4), (.tmp 3), (.tmp 5)]), .none⟩, ⟨(.some 6), (.mov (.tmp 7)), .none⟩]) .ret)), [(6, .none)]⟩
theorem c30 : cmpF Tryd.prog [] [] 30 = some a30 := by kernel_rfl
theorem joinS_bytes {c : Int} (hc : 0 ≤ c ∧ c < 256) : ∀ {L : List (List Int)}, (∀ p ∈ L, Bytes p) → Bytes (joinS c L)
  | [], _ => Bytes.nil
  | [p], h => h p (.head _)
  | p :: q :: r, h => by
    rw [joinS]
    have h1 := joinS_bytes hc (L := q :: r) fun x hx => h x (.tail _ hx)
    intro z hz
    rcases List.mem_append.1 hz with h2 | h2
    · exact h p (.head _) z h2
    · rcases List.mem_cons.1 h2 with h3 | h3
      · rw [h3]; exact hc
      · exact h1 z h3
theorem joinS_two (c : Int) (p : List Int) {r : List (List Int)} (hr : r ≠ []) : joinS c (p :: r) = p ++ c :: joinS c r := by
  cases r with
  | nil => exact absurd rfl hr
  | cons q r => rfl
theorem joinS_drop (c : Int) : ∀ (L : List (List Int)) (k : Nat), (joinS c (L.drop k)).length ≤ (joinS c L).length
  | L, 0 => Nat.le_refl _
  | [], k + 1 => Nat.le_refl _
  | p :: r, k + 1 => by
    rw [List.drop_succ_cons]
    have h := joinS_drop c r k
    by_cases hr : r = []
    · subst hr
      simp [joinS]
    · rw [joinS_two c p hr, List.length_append, List.length_cons]
      omega
theorem ldrop_at {L : List (List Int)} {k : Nat} (h : k < L.length) : L.drop k = L.getD k [] :: L.drop (k + 1) := by
  rw [List.drop_eq_getElem_cons h]
  simp only [List.getD, List.getElem?_eq_getElem h, Option.getD_some]
theorem lget_mem {L : List (List Int)} {k : Nat} (h : k < L.length) : L.getD k [] ∈ L := by
  simp only [List.getD, List.getElem?_eq_getElem h, Option.getD_some]
  exact List.getElem_mem _
theorem zget_mem {p : List Int} {j : Nat} (h : j < p.length) : p.getD j 0 ∈ p := by
  simp only [List.getD, List.getElem?_eq_getElem h, Option.getD_some]
  exact List.getElem_mem _
/-- texts without a byte, joined by it: the function that SplitSeq gives hands them on one by one -/
theorem seqJ {c : Int} (hc : 0 ≤ c ∧ c < 256) {L : List (List Int)} (hL : L ≠ []) (hno : ∀ p ∈ L, ∀ z ∈ p, ¬ z = c) (hb : ∀ p ∈ L, Bytes p) (hs : (joinS c L).length ≤ 100000) :
    SeqC Tryd.prog 47 (strOfNums [c]) L.length (fun k => strOfNums (joinS c (L.drop k))) (fun k => strOfNums (L.getD k [])) := by
  have hN : 0 < L.length := by
    cases L with
    | nil => exact absurd rfl hL
    | cons p r => simp
  have hbd : ∀ k, Bytes (joinS c (L.drop k)) := fun k => joinS_bytes hc fun p hp => hb p (List.mem_of_mem_drop hp)
  have two : ∀ k, k + 1 < L.length → joinS c (L.drop k) = L.getD k [] ++ c :: joinS c (L.drop (k + 1)) := fun k hk => by
    rw [ldrop_at (by omega)]
    exact joinS_two c _ (by
      intro h
      have := congrArg List.length h
      rw [List.length_drop, List.length_nil] at this
      omega)
  have hlast : joinS c (L.drop (L.length - 1)) = L.getD (L.length - 1) [] := by
    rw [ldrop_at (by omega), List.drop_eq_nil_of_le (by omega)]
    rfl
  refine seq_ok (UInt8.ofNat c.toNat) L.length _ _ hN (fun k hk => ?_) ⟨?_, ?_⟩ (fun k => ?_) (fun k hk => ?_)
  · rw [two k hk, strOfNums_size, strOfNums_size, str_ub]
    have hbk := hbd k
    rw [two k hk] at hbk
    have hp := pos_app (L.getD k []) (joinS c (L.drop (k + 1))) c (hno _ (lget_mem (by omega)))
    refine ⟨?_, ?_, ?_, by rw [List.length_append, List.length_cons]; omega⟩
    · rw [idx_fnd _ c hbk hc, fnd, hp, if_pos (by rw [List.length_append, List.length_cons]; omega)]
    · rw [str_extract, List.drop_zero, Nat.sub_zero, List.take_left']
      rfl
    · rw [str_extract]
      congr 1
      have e : (L.getD k [] ++ c :: joinS c (L.drop (k + 1))).drop ((L.getD k []).length + 1) = joinS c (L.drop (k + 1)) := by
        rw [List.drop_append]
        simp
      rw [e, take_all (by rw [List.length_append, List.length_cons]; omega)]
  · rw [hlast, str_ub, idx_fnd _ c (hb _ (lget_mem (by omega))) hc, fnd, if_neg]
    have hz := pos_none (L.getD (L.length - 1) []) c fun j hj => by
      have := zget_mem hj
      exact hno _ (lget_mem (by omega)) _ this
    omega
  · rw [hlast]
  · rw [strOfNums_size]
    have := joinS_drop c L k
    omega
  · rw [two k hk, strOfNums_size, strOfNums_size, List.length_append, List.length_cons]
    omega
theorem split_m (s sep : ByteArray) : GivM Tryd.prog 16 [.d (.c (.string s)), .d (.c (.string sep))] [] (.fn 47 [.ptr 4 0, .ptr 3 0, .ptr 5 0]) [(4, .box [.d (.c (.string sep))]), (3, .box [.d (.c (.string s))]), (5, .box [.d (.c (.int .i64 0))])] := by
  have h30 : GivM Tryd.prog 30 [.d (.c (.string s)), .d (.c (.string sep)), .d (.c (.int .i64 0))] [] (.fn 47 [.ptr 4 0, .ptr 3 0, .ptr 5 0]) [(4, .box [.d (.c (.string sep))]), (3, .box [.d (.c (.string s))]), (5, .box [.d (.c (.int .i64 0))])] := by
    refine GivM.of mixed c30 (Nat.le_of_ble_eq_true rfl) rfl rfl ?_
    simp -dsimp -implicitDefEqProofs (disch := first | omega | (simp only [List.length_append, List.length_cons, List.length_nil, List.length_take, List.length_drop]; omega)) only [a30, ↓aPre, aPost, oneW, allOne, retV, retVA, simprocAttr]
    refine end_of rfl ?_
    simp -dsimp -implicitDefEqProofs (disch := first | omega | (simp only [List.length_append, List.length_cons, List.length_nil, List.length_take, List.length_drop]; omega)) only [↓aPre, aPost, oneW, allOne, retV, retVA, simprocAttr]
  refine GivM.of mixed c16 (Nat.le_of_ble_eq_true rfl) rfl rfl ?_
  simp -dsimp -implicitDefEqProofs (disch := first | omega | (simp only [List.length_append, List.length_cons, List.length_nil, List.length_take, List.length_drop]; omega)) only [a16, ↓aPre, aPost, oneW, allOne, retV, retVA, simprocAttr]
  refine call_mut h30 [] rfl rfl ?_ ?_
  · simp -dsimp -implicitDefEqProofs (disch := first | omega | (simp only [List.length_append, List.length_cons, List.length_nil, List.length_take, List.length_drop]; omega)) only [↓aPre, aPost, oneW, allOne, retV, retVA, simprocAttr]
  simp -dsimp -implicitDefEqProofs (disch := first | omega | (simp only [List.length_append, List.length_cons, List.length_nil, List.length_take, List.length_drop]; omega)) only [↓aPre, aPost, oneW, allOne, retV, retVA, simprocAttr]
  refine end_of rfl ?_
  simp -dsimp -implicitDefEqProofs (disch := first | omega | (simp only [List.length_append, List.length_cons, List.length_nil, List.length_take, List.length_drop]; omega)) only [↓aPre, aPost, oneW, allOne, retV, retVA, simprocAttr]
end Go.Proofs.YthbdglibakjfbaaDoor

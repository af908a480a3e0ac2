/- Directories that hang together: the program's, the reference's; are directories the same? No condition but what each says. -/
import Derived.Test.YtpjnpmdmcllilaaWChn
set_option linter.unusedSimpArgs false
set_option linter.unusedVariables false
set_option maxRecDepth 8000
set_option maxHeartbeats 4000000
namespace Go.Proofs.Ytpjnpmdmcllilaa
open Go.Eng Go.RowKit
theorem cl_giv (d : Dr) (a : Int) : Giv Try.prog 15 [dirD d, .ref [.c (.int .u64 a)]] (retV [.c (.bool (d.1 == a))]) := by
  refine Giv.of mixed c15 (Nat.le_of_ble_eq_true rfl) ?_
  simp -dsimp -implicitDefEqProofs (disch := first | omega | (simp only [List.length_append, List.length_cons, List.length_nil, List.length_take, List.length_drop]; omega)) only [a15, dirD, ↓aPre, aPost, oneW, allOne, retV, retVA, simprocAttr]
  exact post_eq rfl
def dr (l : List Dr) (j : Nat) : Dr := l.getD j (0, 0, [])
theorem dr_drop {l : List Dr} {k : Nat} (h : k < l.length) : l.drop k = dr l k :: l.drop (k + 1) := by
  rw [List.drop_eq_getElem_cons h]
  simp only [dr, List.getD, List.getElem?_eq_getElem h, Option.getD_some]
theorem dr_get {l : List Dr} {j : Nat} (h : j < l.length) : (l.map dirD).getD j default = dirD (dr l j) := by
  simp only [List.getD, List.getElem?_map, List.getElem?_eq_getElem h, Option.map_some, Option.getD_some, dr]
theorem drs_len (l : List Dr) : (l.map dirD).length = l.length := List.length_map ..
theorem ix_giv (l : List Dr) (a : Int) (hl : l.length ≤ 100000) : Giv Try.prog 24 [.lst 3 (l.map dirD), .fn 15 [.ref [.c (.int .u64 a)]]] (retV [.c (.int .i64 (ixD a l 0))]) := by
  refine Giv.of mixed c24 (Nat.le_of_ble_eq_true rfl) ?_
  have hlen := drs_len l
  obtain ⟨R, hR⟩ : ∃ R, R = ixD a l 0 := ⟨_, rfl⟩
  rw [← hR]
  simp -dsimp -implicitDefEqProofs (disch := first | omega | (simp only [List.length_append, List.length_cons, List.length_nil, List.length_take, List.length_drop]; omega)) only [a24, hlen, ↓aPre, aPost, oneW, allOne, retV, retVA, simprocAttr]
  refine loop_of (fun s => ∃ (k : Nat), k ≤ l.length ∧ R = ixD a (l.drop k) k ∧ s.tm 8 = .d (.c (.int .i64 k)) ∧ s.tm 7 = .d (.c (.int .i64 l.length)) ∧ s.tm 0 = .d (.lst 3 (l.map dirD)) ∧ s.tm 1 = .d (.fn 15 [.ref [.c (.int .u64 a)]])) (fun s => l.length - (avN (s.tm 8)).toNat) ?_ ?_
  · refine ⟨0, Nat.zero_le _, hR, ?_⟩
    simp -dsimp -implicitDefEqProofs (disch := first | omega | (simp only [List.length_append, List.length_cons, List.length_nil, List.length_take, List.length_drop]; omega)) only [Int.natCast_zero, ↓aPre, aPost, oneW, allOne, retV, retVA, simprocAttr]
  rintro s ⟨k, hk, hRk, hs⟩
  by_cases hlt : k < l.length
  · have eg := dr_get hlt
    have hc := cl_giv (dr l k) a
    rw [dr_drop hlt, ixD] at hRk
    rw [dirD] at hc eg
    simp -dsimp -implicitDefEqProofs (disch := first | omega | (simp only [List.length_append, List.length_cons, List.length_nil, List.length_take, List.length_drop]; omega)) only [hs, hlen, eg, ↓aPre, aPost, oneW, allOne, retV, retVA, simprocAttr]
    refine call_giv hc ?_
    by_cases hd : (dr l k).1 = a
    · rw [if_pos hd] at hRk
      simp -dsimp -implicitDefEqProofs (disch := first | omega | (simp only [List.length_append, List.length_cons, List.length_nil, List.length_take, List.length_drop]; omega)) only [hs, ibeq_t hd, ↓aPre, aPost, oneW, allOne, retV, retVA, simprocAttr]
      exact post_eq (by rw [hRk])
    · rw [if_neg hd] at hRk
      simp -dsimp -implicitDefEqProofs (disch := first | omega | (simp only [List.length_append, List.length_cons, List.length_nil, List.length_take, List.length_drop]; omega)) only [hs, ibeq_f hd, ↓aPre, aPost, oneW, allOne, retV, retVA, simprocAttr]
      refine round_of ⟨k + 1, by omega, by rw [hRk]; congr 1, ?_⟩ ?_
      · simp -dsimp -implicitDefEqProofs (disch := first | omega | (simp only [List.length_append, List.length_cons, List.length_nil, List.length_take, List.length_drop]; omega)) only [hs, ↓aPre, aPost, oneW, allOne, retV, retVA, simprocAttr]
      · simp -dsimp -implicitDefEqProofs (disch := first | omega | (simp only [List.length_append, List.length_cons, List.length_nil, List.length_take, List.length_drop]; omega)) only [hs, ↓aPre, aPost, oneW, allOne, retV, retVA, simprocAttr]
        omega
  · obtain rfl : k = l.length := by omega
    rw [List.drop_length, ixD] at hRk
    simp -dsimp -implicitDefEqProofs (disch := first | omega | (simp only [List.length_append, List.length_cons, List.length_nil, List.length_take, List.length_drop]; omega)) only [hs, ↓aPre, aPost, oneW, allOne, retV, retVA, simprocAttr]
    exact post_eq (by rw [hRk])
theorem has_giv (l : List Dr) (a : Int) (hl : l.length ≤ 100000) : Giv Try.prog 14 [.lst 3 (l.map dirD), .fn 15 [.ref [.c (.int .u64 a)]]] (retV [.c (.bool (decide (0 ≤ ixD a l 0)))]) := by
  refine Giv.of mixed c14 (Nat.le_of_ble_eq_true rfl) ?_
  simp -dsimp -implicitDefEqProofs (disch := first | omega | (simp only [List.length_append, List.length_cons, List.length_nil, List.length_take, List.length_drop]; omega)) only [a14, ↓aPre, aPost, oneW, allOne, retV, retVA, simprocAttr]
  refine call_giv (ix_giv l a hl) ?_
  simp -dsimp -implicitDefEqProofs (disch := first | omega | (simp only [List.length_append, List.length_cons, List.length_nil, List.length_take, List.length_drop]; omega)) only [↓aPre, aPost, oneW, allOne, retV, retVA, simprocAttr]
  exact post_eq rfl
theorem snoc_len (out : List Dr) (d : Dr) : (out ++ [d]).length = out.length + 1 := by simp
theorem snoc_map (out : List Dr) (d : Dr) : (out ++ [d]).map dirD = out.map dirD ++ [dirD d] := by simp
theorem snoc_last (out : List Dr) (d : Dr) : (out.map dirD ++ [dirD d]).getD out.length default = dirD d := by simp [List.getD]
theorem chain_giv (b : List Int) (big large : Bool) (first : Nat) (most : Int) (hl : b.length ≤ 100000) (hB : Bytes b) (ha : first < 18446744073709551616) :
    Giv Try.prog 10 [.lst 1 (li .u8 b), hD big large first, .c (.int .i64 most)] (retV [.lst 3 ((chn b big large most (b.length + 2) first []).1.map dirD), .c (.int .i64 (chn b big large most (b.length + 2) first []).2)]) := by
  obtain ⟨R, hR⟩ : ∃ R, R = chn b big large most (b.length + 2) first [] := ⟨_, rfl⟩
  rw [← hR]
  refine Giv.of mixed c10 (Nat.le_of_ble_eq_true rfl) ?_
  simp -dsimp -implicitDefEqProofs (disch := first | omega | (simp only [List.length_append, List.length_cons, List.length_nil, List.length_take, List.length_drop]; omega)) only [a10, hD, ↓aPre, aPost, oneW, allOne, retV, retVA, simprocAttr]
  refine loop_nil 8 100 3 (fun s => ∃ (k at_ : Nat) (out : List Dr), R = chn b big large most (k + 1) at_ out ∧ b.length + 1 = k + out.length ∧ Ok b out ∧ at_ < 18446744073709551616 ∧ s.tm 0 = .d (.lst 1 (li .u8 b)) ∧ s.tm 2 = .d (.c (.int .i64 most)) ∧ s.tm 4 = .ptr 4 0 ∧ s.hp 4 = some (.box [.d (.c (.bool big)), .d (.c (.bool large)), .d (.c (.int .u64 first))]) ∧ s.tm 9 = .ptr 9 0 ∧ s.hp 9 = some (.box [.d (.c (.int .u64 at_))]) ∧ s.tm 8 = .sl 100 3 0 out.length ∧ s.hp 100 = some (.row 3 (out.map dirD))) (fun s => match s.tm 8 with | .sl _ _ _ n => b.length + 1 - n | _ => 0) ?_ (by decide) ?_ ?_
  · simp -dsimp -implicitDefEqProofs (disch := first | omega | (simp only [List.length_append, List.length_cons, List.length_nil, List.length_take, List.length_drop]; omega)) only [↓aPre, aPost, oneW, allOne, retV, retVA, simprocAttr]
  · refine ⟨b.length + 1, first, [], hR, rfl, Ok.nil, ha, ?_⟩
    simp -dsimp -implicitDefEqProofs (disch := first | omega | (simp only [List.length_append, List.length_cons, List.length_nil, List.length_take, List.length_drop]; omega)) only [Int.natCast_zero, List.map_nil, List.length_nil, ↓aPre, aPost, oneW, allOne, retV, retVA, simprocAttr]
  rintro s ⟨k, at_, out, hRk, hk, hO, hat, hs⟩
  have hol := hO.len
  have hdl := drs_len out
  have htk : (out.map dirD).take out.length = out.map dirD := take_all (by rw [hdl]; exact Nat.le_refl _)
  rw [chn] at hRk
  by_cases h0 : at_ = 0
  · subst h0
    rw [if_pos rfl] at hRk
    simp -dsimp -implicitDefEqProofs (disch := first | omega | (simp only [List.length_append, List.length_cons, List.length_nil, List.length_take, List.length_drop]; omega)) only [hs, hdl, htk, ibne_f (show ((0 : Nat) : Int) = 0 from rfl), Int.natCast_zero, ↓aPre, aPost, oneW, allOne, retV, retVA, simprocAttr]
    exact post_eq (by rw [hRk])
  rw [if_neg h0] at hRk
  have hz := ibne_t (show ¬ ((at_ : Nat) : Int) = 0 by omega)
  have hh := has_giv out at_ (by omega)
  by_cases h1 : 0 ≤ ixD at_ out 0
  · rw [if_pos h1] at hRk
    rw [decide_eq_true h1] at hh
    simp -dsimp -implicitDefEqProofs (disch := first | omega | (simp only [List.length_append, List.length_cons, List.length_nil, List.length_take, List.length_drop]; omega)) only [hs, hdl, htk, hz, ↓aPre, aPost, oneW, allOne, retV, retVA, simprocAttr]
    refine call_lend hh rfl ?_
    simp -dsimp -implicitDefEqProofs (disch := first | omega | (simp only [List.length_append, List.length_cons, List.length_nil, List.length_take, List.length_drop]; omega)) only [hs, ↓aPre, aPost, oneW, allOne, retV, retVA, simprocAttr]
    exact post_le (by rw [hRk]; repeat (first | exact leD.nil | exact leE.refl _ | exact leE.nil _ | refine leD.cons ?_ ?_ | refine leE.agg ?_))
  rw [if_neg h1] at hRk
  rw [decide_eq_false h1] at hh
  by_cases h2 : most ≤ (out.length : Int)
  · rw [if_pos h2] at hRk
    simp -dsimp -implicitDefEqProofs (disch := first | omega | (simp only [List.length_append, List.length_cons, List.length_nil, List.length_take, List.length_drop]; omega)) only [hs, hdl, htk, hz, ↓aPre, aPost, oneW, allOne, retV, retVA, simprocAttr]
    refine call_lend hh rfl ?_
    simp -dsimp -implicitDefEqProofs (disch := first | omega | (simp only [List.length_append, List.length_cons, List.length_nil, List.length_take, List.length_drop]; omega)) only [hs, hdl, ↓aPre, aPost, oneW, allOne, retV, retVA, simprocAttr]
    exact post_le (by rw [hRk]; repeat (first | exact leD.nil | exact leE.refl _ | exact leE.nil _ | refine leD.cons ?_ ?_ | refine leE.agg ?_))
  rw [if_neg h2] at hRk
  have hrd := read_giv b big large first at_ hl hB hat
  obtain ⟨r, hr⟩ : ∃ r, r = dirS b big large at_ := ⟨_, rfl⟩
  rw [← hr] at hrd hRk
  rw [dirE] at hrd
  by_cases h3 : r.2 = 0
  · rw [if_neg (fun q => q h3)] at hRk
    have hk2 := dirS_ok hB (hr ▸ h3)
    rw [← hr] at hk2
    obtain ⟨k1, k2, k3, k4⟩ := hk2
    have hsl := snoc_len out r.1
    have hsm := snoc_map out r.1
    have hla := snoc_last out r.1
    obtain ⟨nx, hnx⟩ : ∃ nx : Nat, nx = r.1.2.1.toNat := ⟨_, rfl⟩
    have hnx2 : r.1.2.1 = (nx : Int) := by omega
    rw [← hnx] at hRk
    rw [h3] at hrd
    rw [dirD] at hrd hla hsm
    have hix : ((out.length : Int) + 1 - 1).toNat = out.length := by omega
    simp -dsimp -implicitDefEqProofs (disch := first | omega | (simp only [List.length_append, List.length_cons, List.length_nil, List.length_take, List.length_drop]; omega)) only [hs, hdl, htk, hz, ↓aPre, aPost, oneW, allOne, retV, retVA, simprocAttr]
    refine call_lend hh rfl ?_
    simp -dsimp -implicitDefEqProofs (disch := first | omega | (simp only [List.length_append, List.length_cons, List.length_nil, List.length_take, List.length_drop]; omega)) only [hs, hdl, hD, ↓aPre, aPost, oneW, allOne, retV, retVA, simprocAttr]
    refine call_giv hrd ?_
    simp -dsimp -implicitDefEqProofs (disch := first | omega | (simp only [List.length_append, List.length_cons, List.length_nil, List.length_take, List.length_drop]; omega)) only [hs, hdl, hix, hla, ↓aPre, aPost, oneW, allOne, retV, retVA, simprocAttr]
    refine round_of ⟨k - 1, nx, out ++ [r.1], by rw [hRk, show k - 1 + 1 = k by omega], by rw [hsl]; omega, hO.snoc k1 k2 h1, by omega, ?_⟩ ?_
    · simp -dsimp -implicitDefEqProofs (disch := first | omega | (simp only [List.length_append, List.length_cons, List.length_nil, List.length_take, List.length_drop]; omega)) only [hs, hdl, hsm, hsl, hnx2, ↓aPre, aPost, oneW, allOne, retV, retVA, simprocAttr]
    · simp -dsimp -implicitDefEqProofs (disch := first | omega | (simp only [List.length_append, List.length_cons, List.length_nil, List.length_take, List.length_drop]; omega)) only [hs, hdl, ↓aPre, aPost, oneW, allOne, retV, retVA, simprocAttr]
      omega
  · rw [if_pos h3] at hRk
    have h3' := ibne_t h3
    rw [dirD] at hrd
    simp -dsimp -implicitDefEqProofs (disch := first | omega | (simp only [List.length_append, List.length_cons, List.length_nil, List.length_take, List.length_drop]; omega)) only [hs, hdl, htk, hz, ↓aPre, aPost, oneW, allOne, retV, retVA, simprocAttr]
    refine call_lend hh rfl ?_
    simp -dsimp -implicitDefEqProofs (disch := first | omega | (simp only [List.length_append, List.length_cons, List.length_nil, List.length_take, List.length_drop]; omega)) only [hs, hdl, hD, ↓aPre, aPost, oneW, allOne, retV, retVA, simprocAttr]
    refine call_giv hrd ?_
    simp -dsimp -implicitDefEqProofs (disch := first | omega | (simp only [List.length_append, List.length_cons, List.length_nil, List.length_take, List.length_drop]; omega)) only [hs, h3', ↓aPre, aPost, oneW, allOne, retV, retVA, simprocAttr]
    exact post_le (by rw [hRk]; repeat (first | exact leD.nil | exact leE.refl _ | exact leE.nil _ | refine leD.cons ?_ ?_ | refine leE.agg ?_))
/-- the same fields, the same directories -/
theorem fsame_giv (l : List Fld) (hl : l.length ≤ 1000000) (hv : ∀ f ∈ l, f.2.2.length ≤ 1000000) : Giv Try.prog 13 [.lst 3 (l.map fldD), .lst 3 (l.map fldD)] (retV [.c (.bool true)]) := by
  have hlen : (l.map fldD).length = l.length := List.length_map ..
  refine Giv.of mixed c13 (Nat.le_of_ble_eq_true rfl) ?_
  simp -dsimp -implicitDefEqProofs (disch := first | omega | (simp only [List.length_append, List.length_cons, List.length_nil, List.length_take, List.length_drop]; omega)) only [a13, hlen, ↓aPre, aPost, oneW, allOne, retV, retVA, simprocAttr]
  refine loop_of (fun s => ∃ (k : Nat), k ≤ l.length ∧ s.tm 5 = .d (.c (.int .i64 k)) ∧ s.tm 0 = .d (.lst 3 (l.map fldD)) ∧ s.tm 1 = .d (.lst 3 (l.map fldD))) (fun s => l.length - (avN (s.tm 5)).toNat) ?_ ?_
  · refine ⟨0, Nat.zero_le _, ?_⟩
    simp -dsimp -implicitDefEqProofs (disch := first | omega | (simp only [List.length_append, List.length_cons, List.length_nil, List.length_take, List.length_drop]; omega)) only [Int.natCast_zero, ↓aPre, aPost, oneW, allOne, retV, retVA, simprocAttr]
  rintro s ⟨k, hk, hs⟩
  by_cases hlt : k < l.length
  · obtain ⟨f, hf, hm⟩ : ∃ f, (l.map fldD).getD k default = fldD f ∧ f ∈ l := ⟨l[k], by simp [List.getD, hlt], List.getElem_mem _⟩
    rw [fldD] at hf
    have hc := same_t f.2.2 (by have := hv f hm; omega)
    simp -dsimp -implicitDefEqProofs (disch := first | omega | (simp only [List.length_append, List.length_cons, List.length_nil, List.length_take, List.length_drop]; omega)) only [hs, hlen, hf, ↓aPre, aPost, oneW, allOne, retV, retVA, simprocAttr]
    refine call_giv hc ?_
    simp -dsimp -implicitDefEqProofs (disch := first | omega | (simp only [List.length_append, List.length_cons, List.length_nil, List.length_take, List.length_drop]; omega)) only [hs, ↓aPre, aPost, oneW, allOne, retV, retVA, simprocAttr]
    refine round_of ⟨k + 1, by omega, ?_⟩ ?_
    · simp -dsimp -implicitDefEqProofs (disch := first | omega | (simp only [List.length_append, List.length_cons, List.length_nil, List.length_take, List.length_drop]; omega)) only [hs, ↓aPre, aPost, oneW, allOne, retV, retVA, simprocAttr]
    · simp -dsimp -implicitDefEqProofs (disch := first | omega | (simp only [List.length_append, List.length_cons, List.length_nil, List.length_take, List.length_drop]; omega)) only [hs, ↓aPre, aPost, oneW, allOne, retV, retVA, simprocAttr]
      omega
  · obtain rfl : k = l.length := by omega
    simp -dsimp -implicitDefEqProofs (disch := first | omega | (simp only [List.length_append, List.length_cons, List.length_nil, List.length_take, List.length_drop]; omega)) only [hs, hlen, ↓aPre, aPost, oneW, allOne, retV, retVA, simprocAttr]
    exact post_eq rfl
theorem dsame_giv (l : List Dr) (hl : l.length ≤ 1000000) (hv : ∀ d ∈ l, d.2.2.length ≤ 1000000 ∧ ∀ f ∈ d.2.2, f.2.2.length ≤ 1000000) : Giv Try.prog 8 [.lst 3 (l.map dirD), .lst 3 (l.map dirD)] (retV [.c (.bool true)]) := by
  have hlen := drs_len l
  refine Giv.of mixed c8 (Nat.le_of_ble_eq_true rfl) ?_
  simp -dsimp -implicitDefEqProofs (disch := first | omega | (simp only [List.length_append, List.length_cons, List.length_nil, List.length_take, List.length_drop]; omega)) only [a8, hlen, ↓aPre, aPost, oneW, allOne, retV, retVA, simprocAttr]
  refine loop_of (fun s => ∃ (k : Nat), k ≤ l.length ∧ s.tm 5 = .d (.c (.int .i64 k)) ∧ s.tm 0 = .d (.lst 3 (l.map dirD)) ∧ s.tm 1 = .d (.lst 3 (l.map dirD))) (fun s => l.length - (avN (s.tm 5)).toNat) ?_ ?_
  · refine ⟨0, Nat.zero_le _, ?_⟩
    simp -dsimp -implicitDefEqProofs (disch := first | omega | (simp only [List.length_append, List.length_cons, List.length_nil, List.length_take, List.length_drop]; omega)) only [Int.natCast_zero, ↓aPre, aPost, oneW, allOne, retV, retVA, simprocAttr]
  rintro s ⟨k, hk, hs⟩
  by_cases hlt : k < l.length
  · obtain ⟨f, hf, hm⟩ : ∃ f, (l.map dirD).getD k default = dirD f ∧ f ∈ l := ⟨l[k], by simp [List.getD, hlt], List.getElem_mem _⟩
    rw [dirD] at hf
    have hc := fsame_giv f.2.2 (hv f hm).1 (hv f hm).2
    simp -dsimp -implicitDefEqProofs (disch := first | omega | (simp only [List.length_append, List.length_cons, List.length_nil, List.length_take, List.length_drop]; omega)) only [hs, hlen, hf, ↓aPre, aPost, oneW, allOne, retV, retVA, simprocAttr]
    refine call_giv hc ?_
    simp -dsimp -implicitDefEqProofs (disch := first | omega | (simp only [List.length_append, List.length_cons, List.length_nil, List.length_take, List.length_drop]; omega)) only [hs, ↓aPre, aPost, oneW, allOne, retV, retVA, simprocAttr]
    refine round_of ⟨k + 1, by omega, ?_⟩ ?_
    · simp -dsimp -implicitDefEqProofs (disch := first | omega | (simp only [List.length_append, List.length_cons, List.length_nil, List.length_take, List.length_drop]; omega)) only [hs, ↓aPre, aPost, oneW, allOne, retV, retVA, simprocAttr]
    · simp -dsimp -implicitDefEqProofs (disch := first | omega | (simp only [List.length_append, List.length_cons, List.length_nil, List.length_take, List.length_drop]; omega)) only [hs, ↓aPre, aPost, oneW, allOne, retV, retVA, simprocAttr]
      omega
  · obtain rfl : k = l.length := by omega
    simp -dsimp -implicitDefEqProofs (disch := first | omega | (simp only [List.length_append, List.length_cons, List.length_nil, List.length_take, List.length_drop]; omega)) only [hs, hlen, ↓aPre, aPost, oneW, allOne, retV, retVA, simprocAttr]
    exact post_eq rfl
end Go.Proofs.Ytpjnpmdmcllilaa

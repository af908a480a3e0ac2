/- Lengths: how long the word of each thing is. No condition but what each says. -/
import Derived.Test.YtlchakkdgkbabaaLCost
import Derived.Test.YtlchakkdgkbabaaWF2
import Derived.Test.YtlchakkdgkbabaaWPrs
set_option linter.unusedSimpArgs false
set_option linter.unusedVariables false
set_option maxRecDepth 8000
set_option maxHeartbeats 16000000
namespace Go.Proofs.Ytlchakkdgkbabaa
open Go.Eng Go.RowKit
theorem sgl_row (of : List Int) (k : Nat) (h : 0 < of.getD k 0) : (sgl of k).map pcD ++ [.agg [.c (.int .i64 (of.getD k 0)), .lst 1 [.c (.int .i64 k)]]] = (sgl of (k + 1)).map pcD := by
  rw [sgl, if_pos h, List.map_append]
  rfl
theorem sgl_row0 (of : List Int) (k : Nat) (h : ¬ 0 < of.getD k 0) : sgl of (k + 1) = sgl of k := by rw [sgl, if_neg h]
theorem shl1 (L : Nat) (h : L ≤ 30) : IntKind.i64.wrap (1 * 2 ^ min L IntKind.i64.bits) = ((2 ^ L : Nat) : Int) := by
  rw [show min L IntKind.i64.bits = L by show min L 64 = L; omega, Int.one_mul]
  have h1 : 2 ^ L ≤ 2 ^ 30 := Nat.pow_le_pow_right (by decide) h
  rw [show ((2 : Int) ^ L) = ((2 ^ L : Nat) : Int) by simp]
  obtain ⟨q, hq⟩ : ∃ q, q = 2 ^ L := ⟨_, rfl⟩
  rw [← hq] at h1 ⊢
  exact wrap_in64 (by omega)
theorem lens_giv (of : List Int) (L : Nat) (h1 : 1 ≤ L) (h2 : L ≤ 30) (hl : of.length ≤ 300) (hg : GoodL of) (hc : (sgs of).length ≤ 2 ^ L) : Giv Try.prog 8 [.lst 1 (li .i64 of), .c (.int .i64 L)] (retV [.lst 1 (li .i64 (lensL of L)), .c (.int .i64 0)]) := by
  refine Giv.of mixed c8 (Nat.le_of_ble_eq_true rfl) ?_
  have hll := li_length (k := .i64) (l := of)
  have htk : List.take of.length (lensL of L) = lensL of L := List.take_of_length_le (by rw [lensL_len]; exact Nat.le_refl _)
  simp -dsimp -implicitDefEqProofs (disch := first | omega | (simp only [List.length_append, List.length_cons, List.length_nil, List.length_take, List.length_drop]; omega)) only [a8, hll, ↓aPre, aPost, oneW, allOne, retV, retVA, simprocAttr]
  refine loop_nil 6 100 2 (fun s => ∃ (k m : Nat), k ≤ of.length ∧ m = (sgl of k).length ∧ s.tm 0 = .d (.lst 1 (li .i64 of)) ∧ s.tm 1 = .d (.c (.int .i64 L)) ∧ s.tm 26 = .d (.lst 1 (li .i64 of)) ∧ s.tm 27 = .d (.c (.int .i64 of.length)) ∧ s.tm 28 = .d (.c (.int .i64 k)) ∧ s.tm 6 = .sl 100 2 0 m ∧ s.hp 100 = some (.row 2 ((sgl of k).map pcD))) (fun s => of.length - (avN (s.tm 28)).toNat) ?_ (by decide) ?_ ?_
  · simp -dsimp -implicitDefEqProofs (disch := first | omega | (simp only [List.length_append, List.length_cons, List.length_nil, List.length_take, List.length_drop]; omega)) only [↓aPre, aPost, oneW, allOne, retV, retVA, simprocAttr]
  · refine ⟨0, 0, Nat.zero_le _, rfl, ?_⟩
    simp -dsimp -implicitDefEqProofs (disch := first | omega | (simp only [List.length_append, List.length_cons, List.length_nil, List.length_take, List.length_drop]; omega)) only [hll, ↓aPre, aPost, oneW, allOne, retV, retVA, simprocAttr]
    rfl
  rintro s ⟨k, m, hk, hm, hs⟩
  have hml := pcs_len (sgl of k)
  rw [← hm] at hml
  have hmk := sgl_le of k
  by_cases hlt : k < of.length
  · have hb := hg k hlt
    by_cases hp : 0 < of.getD k 0
    · have hr := sgl_row of k hp
      have hm2 : m + 1 = (sgl of (k + 1)).length := by rw [sgl, if_pos hp, hm]; simp
      obtain ⟨z, hz⟩ : ∃ z, z = of.getD k 0 := ⟨_, rfl⟩
      rw [← hz] at hb hp hr
      simp -dsimp -implicitDefEqProofs (disch := first | omega | (simp only [List.length_append, List.length_cons, List.length_nil, List.length_take, List.length_drop]; omega)) only [hs, hll, ← hz, hml, ↓aPre, aPost, oneW, allOne, retV, retVA, simprocAttr]
      refine round_of ⟨k + 1, m + 1, by omega, hm2, ?_⟩ ?_
      · simp -dsimp -implicitDefEqProofs (disch := first | omega | (simp only [List.length_append, List.length_cons, List.length_nil, List.length_take, List.length_drop]; omega)) only [hs, ← hr, ↓aPre, aPost, oneW, allOne, retV, retVA, simprocAttr]
      · simp -dsimp -implicitDefEqProofs (disch := first | omega | (simp only [List.length_append, List.length_cons, List.length_nil, List.length_take, List.length_drop]; omega)) only [hs, ↓aPre, aPost, oneW, allOne, retV, retVA, simprocAttr]
        omega
    · have e := sgl_row0 of k hp
      rw [← e] at hm
      simp -dsimp -implicitDefEqProofs (disch := first | omega | (simp only [List.length_append, List.length_cons, List.length_nil, List.length_take, List.length_drop]; omega)) only [hs, hll, ↓aPre, aPost, oneW, allOne, retV, retVA, simprocAttr]
      refine round_of ⟨k + 1, m, by omega, hm, ?_⟩ ?_
      · simp -dsimp -implicitDefEqProofs (disch := first | omega | (simp only [List.length_append, List.length_cons, List.length_nil, List.length_take, List.length_drop]; omega)) only [hs, e, ↓aPre, aPost, oneW, allOne, retV, retVA, simprocAttr]
      · simp -dsimp -implicitDefEqProofs (disch := first | omega | (simp only [List.length_append, List.length_cons, List.length_nil, List.length_take, List.length_drop]; omega)) only [hs, ↓aPre, aPost, oneW, allOne, retV, retVA, simprocAttr]
        omega
  · obtain rfl : k = of.length := by omega
    have hn := sgs_len of
    rw [← hm] at hn
    have hsh := shl1 L h2
    rw [hn] at hc
    obtain ⟨P2, hP2⟩ : ∃ P2, P2 = 2 ^ L := ⟨_, rfl⟩
    rw [← hP2] at hsh hc
    simp -dsimp -implicitDefEqProofs (disch := first | omega | (simp only [List.length_append, List.length_cons, List.length_nil, List.length_take, List.length_drop]; omega)) only [hs, hll, hsh, ↓aPre, aPost, oneW, allOne, retV, retVA, simprocAttr]
    by_cases hn0 : m = 0
    · have e := lensL_nil (of := of) (L := L) (by omega)
      simp -dsimp -implicitDefEqProofs (disch := first | omega | (simp only [List.length_append, List.length_cons, List.length_nil, List.length_take, List.length_drop]; omega)) only [hs, hll, hn0, ↓aPre, aPost, oneW, allOne, retV, retVA, simprocAttr]
      refine post_eq ?_
      rw [e, htk]
    · by_cases hn1 : m = 1
      · obtain ⟨p, hp⟩ := List.length_eq_one_iff.1 (hm.symm.trans hn1)
        obtain ⟨i, q1, q2, q3, q4⟩ := sgl_one hp
        have e := lensL_one (L := L) hp q3 q1
        have gp : ((sgl of of.length).map pcD).getD 0 default = .agg [.c (.int .i64 (of.getD i 0)), .lst 1 (li .i64 [(i : Int)])] := by
          rw [hp, q3]
          rfl
        subst hn1
        obtain ⟨R, hR⟩ : ∃ R, R = (sgl of of.length).map pcD := ⟨_, rfl⟩
        rw [← hR] at hs gp hml
        have hrl : (List.replicate of.length (0 : Int)).length = of.length := List.length_replicate ..
        simp -dsimp -implicitDefEqProofs (disch := first | omega | (simp only [List.length_append, List.length_cons, List.length_nil, List.length_take, List.length_drop]; omega)) only [hs, hll, gp, hml, hrl, ↓aPre, aPost, oneW, allOne, retV, retVA, simprocAttr]
        refine post_eq ?_
        rw [e, htk]
      · have hso := sort_m 15 cmp15 (sgl of of.length) m hm (by omega)
        rw [show stab (sgl of of.length) = sgs of from rfl] at hso
        have e := lensL_more (of := of) (L := L) (by omega)
        simp -dsimp -implicitDefEqProofs (disch := first | omega | (simp only [List.length_append, List.length_cons, List.length_nil, List.length_take, List.length_drop]; omega)) only [hs, hll, hn0, hn1, ↓aPre, aPost, oneW, allOne, retV, retVA, simprocAttr]
        refine call_mut hso [(2000000, 100)] rfl rfl ?_ ?_
        · simp -dsimp -implicitDefEqProofs (disch := first | omega | (simp only [List.length_append, List.length_cons, List.length_nil, List.length_take, List.length_drop]; omega)) only [hs, ↓aPre, aPost, oneW, allOne, retV, retVA, simprocAttr]
        simp -dsimp -implicitDefEqProofs (disch := first | omega | (simp only [List.length_append, List.length_cons, List.length_nil, List.length_take, List.length_drop]; omega)) only [hs, ↓aPre, aPost, oneW, allOne, retV, retVA, simprocAttr]
        have hsg := sgs_sg of
        have hnl : ((sgs of).map pcD).length = m := by rw [pcs_len, hn]
        refine loop_of (fun s => ∃ k, k ≤ L ∧ s.tm 81 = .d (.c (.int .i64 k)) ∧ s.tm 80 = .d (.c (.int .i64 L)) ∧ s.tm 6 = .sl 100 2 0 m ∧ s.tm 9 = .sl 53 1 0 of.length ∧ s.hp 53 = some (.row 1 (li .i64 (List.replicate of.length 0))) ∧ ((k = 0 ∧ s.tm 10 = .d (.c (.slice none 0 0)) ∧ s.hp 100 = some (.row 2 ((sgs of).map pcD))) ∨ (1 ≤ k ∧ s.tm 10 = .d (.lst 2 ((LL (sgs of) k).map pcD)) ∧ s.hp 100 = some (.ice 2 ((sgs of).map pcD))))) (fun s => L - (avN (s.tm 81)).toNat) ?_ ?_
        · refine ⟨0, Nat.zero_le _, ?_⟩
          simp -dsimp -implicitDefEqProofs (disch := first | omega | (simp only [List.length_append, List.length_cons, List.length_nil, List.length_take, List.length_drop]; omega)) only [hs, ↓aPre, aPost, oneW, allOne, retV, retVA, simprocAttr]
        clear hs
        rintro s ⟨k, hk, hs81, hs80, hs6, hs9, hs53, hs10⟩
        have hs : s.tm 81 = .d (.c (.int .i64 k)) ∧ s.tm 80 = .d (.c (.int .i64 L)) ∧ s.tm 6 = .sl 100 2 0 m ∧ s.tm 9 = .sl 53 1 0 of.length ∧ s.hp 53 = some (.row 1 (li .i64 (List.replicate of.length 0))) := ⟨hs81, hs80, hs6, hs9, hs53⟩
        clear hs81 hs80 hs6 hs9 hs53
        by_cases hkL : k < L
        · have hsh := LL_short (sgs of) k
          have hit := LL_its (sgs of) k
          rw [(one_its (one_sgs of)).1] at hit
          have hit2 : (sgs of).length * k ≤ 300 * 30 := Nat.mul_le_mul (by omega) (by omega)
          have hpw : 2 ^ k ≤ 2 ^ 30 := Nat.pow_le_pow_right (by decide) (by omega)
          have hp : Giv Try.prog 18 [.lst 2 ((LL (sgs of) k).map pcD)] (retV [.lst 2 ((prs (LL (sgs of) k)).map pcD)]) := by
            refine pairs_giv _ (by omega) fun p hp => ?_
            have w := LL_wt (M := 1073741824) (by decide) (fun p hp => ?_) k p hp
            · have := its_part hp
              have h3 : (1073741824 : Int) * ((2 ^ k : Nat) : Int) ≤ 1073741824 * 1073741824 := Int.mul_le_mul_of_nonneg_left (by omega) (by decide)
              refine ⟨w.1, by omega, by omega⟩
            · obtain ⟨i, q1, q2, rfl⟩ := sgl_mem.1 (sgs_mem.1 hp)
              exact hg i q1
          have hm2 := merge_giv (sgs of) (prs (LL (sgs of) k)) (stab_isSrt _) (prs_srt (LL_srt hsg.srt k)) (by rw [prs_len]; omega)
          rw [show mrg (sgs of) (prs (LL (sgs of) k)) = LL (sgs of) (k + 1) from rfl] at hm2
          obtain ⟨k2, hk2⟩ : ∃ k2, k2 = k + 1 := ⟨_, rfl⟩
          have i1 : (k : Int) + 1 = (k2 : Int) := by omega
          rw [← hk2] at hm2
          rcases hs10 with ⟨hk0, hs10⟩ | ⟨hk1, hs10⟩
          · have hp0 : Giv Try.prog 18 [.c (.slice none 0 0)] (retV [.lst 2 ((prs (LL (sgs of) k)).map pcD)]) := Giv.le (by rw [hk0]; show leD _ [.lst 2 []]; repeat (first | exact leD.nil | exact leE.refl _ | exact leE.nil _ | refine leD.cons ?_ ?_ | refine leE.agg ?_)) hp
            simp -dsimp -implicitDefEqProofs (disch := first | omega | (simp only [List.length_append, List.length_cons, List.length_nil, List.length_take, List.length_drop]; omega)) only [hs, hs10, ↓aPre, aPost, oneW, allOne, retV, retVA, simprocAttr]
            refine call_giv hp0 ?_
            simp -dsimp -implicitDefEqProofs (disch := first | omega | (simp only [List.length_append, List.length_cons, List.length_nil, List.length_take, List.length_drop]; omega)) only [hs, hs10, hnl, ↓aPre, aPost, oneW, allOne, retV, retVA, simprocAttr]
            refine call_giv hm2 ?_
            simp -dsimp -implicitDefEqProofs (disch := first | omega | (simp only [List.length_append, List.length_cons, List.length_nil, List.length_take, List.length_drop]; omega)) only [hs, hs10, i1, ↓aPre, aPost, oneW, allOne, retV, retVA, simprocAttr]
            refine round_of ⟨k2, by omega, ?_⟩ ?_
            · simp -dsimp -implicitDefEqProofs (disch := first | omega | (simp only [List.length_append, List.length_cons, List.length_nil, List.length_take, List.length_drop]; omega)) only [hs, ↓aPre, aPost, oneW, allOne, retV, retVA, simprocAttr]
              omega
            · simp -dsimp -implicitDefEqProofs (disch := first | omega | (simp only [List.length_append, List.length_cons, List.length_nil, List.length_take, List.length_drop]; omega)) only [hs, ↓aPre, aPost, oneW, allOne, retV, retVA, simprocAttr]
              omega
          · simp -dsimp -implicitDefEqProofs (disch := first | omega | (simp only [List.length_append, List.length_cons, List.length_nil, List.length_take, List.length_drop]; omega)) only [hs, hs10, ↓aPre, aPost, oneW, allOne, retV, retVA, simprocAttr]
            refine call_giv hp ?_
            simp -dsimp -implicitDefEqProofs (disch := first | omega | (simp only [List.length_append, List.length_cons, List.length_nil, List.length_take, List.length_drop]; omega)) only [hs, hs10, hnl, ↓aPre, aPost, oneW, allOne, retV, retVA, simprocAttr]
            refine call_giv hm2 ?_
            simp -dsimp -implicitDefEqProofs (disch := first | omega | (simp only [List.length_append, List.length_cons, List.length_nil, List.length_take, List.length_drop]; omega)) only [hs, hs10, i1, ↓aPre, aPost, oneW, allOne, retV, retVA, simprocAttr]
            refine round_of ⟨k2, by omega, ?_⟩ ?_
            · simp -dsimp -implicitDefEqProofs (disch := first | omega | (simp only [List.length_append, List.length_cons, List.length_nil, List.length_take, List.length_drop]; omega)) only [hs, hs10, ↓aPre, aPost, oneW, allOne, retV, retVA, simprocAttr]
              omega
            · simp -dsimp -implicitDefEqProofs (disch := first | omega | (simp only [List.length_append, List.length_cons, List.length_nil, List.length_take, List.length_drop]; omega)) only [hs, ↓aPre, aPost, oneW, allOne, retV, retVA, simprocAttr]
              omega
        · obtain rfl : k = L := by omega
          rcases hs10 with ⟨hk0, hs10⟩ | ⟨hk1, hs10⟩
          · omega
          have hit := LL_its (sgs of) k
          rw [(one_its (one_sgs of)).1] at hit
          have hit2 : (sgs of).length * k ≤ 300 * 30 := Nat.mul_le_mul (by omega) (by omega)
          have hlong := LL_long (sgs of) k 1 (by omega)
          obtain ⟨T2, hT2⟩ : ∃ T2, T2 = 2 * ((sgs of).length - 1) := ⟨_, rfl⟩
          have i1 : (2 : Int) * (m : Int) - 2 = (T2 : Int) := by omega
          obtain ⟨X, hX⟩ : ∃ X, X = LL (sgs of) k := ⟨_, rfl⟩
          obtain ⟨T, hT⟩ : ∃ T, T = X.take T2 := ⟨_, rfl⟩
          have hpk : pk of k = its T := by rw [pk, ← hT2, ← hX, ← hT]
          have hTl : T.length = T2 := by rw [hT, List.length_take, hX]; omega
          have hgd : Gd of T := by rw [hT, hX]; exact gd_take (LL_gd of k) T2
          have hTi : (its T).length ≤ 9000 := by
            have : (its (X.take T2 ++ X.drop T2)).length ≤ 9000 := by rw [List.take_append_drop, hX]; omega
            rw [its_app, List.length_append, ← hT] at this
            omega
          rw [← hX] at hs10 hlong
          have hXl := pcs_len X
          have htm : List.take T2 (X.map pcD) = T.map pcD := by rw [hT, List.map_take]
          have hTm : (T.map pcD).length = T2 := by rw [pcs_len, hTl]
          rw [hpk] at e
          simp -dsimp -implicitDefEqProofs (disch := first | omega | (simp only [List.length_append, List.length_cons, List.length_nil, List.length_take, List.length_drop]; omega)) only [hs, hs10, i1, hXl, htm, hTm, ↓aPre, aPost, oneW, allOne, retV, retVA, simprocAttr]
          refine loop_of (fun s => ∃ (A B : List Pc), T = A ++ B ∧ s.tm 95 = .d (.c (.int .i64 A.length)) ∧ s.tm 94 = .d (.c (.int .i64 T2)) ∧ s.tm 93 = .d (.lst 2 (T.map pcD)) ∧ s.tm 9 = .sl 53 1 0 of.length ∧ s.hp 53 = some (.row 1 (li .i64 (cntL (its A) of.length)))) (fun s => T2 - (avN (s.tm 95)).toNat) ?_ ?_
          · refine ⟨[], T, rfl, ?_⟩
            rw [show cntL (its []) of.length = List.replicate of.length 0 from cnt_nil _]
            simp -dsimp -implicitDefEqProofs (disch := first | omega | (simp only [List.length_append, List.length_cons, List.length_nil, List.length_take, List.length_drop]; omega)) only [hs, List.length_nil, Int.natCast_zero, htm, ↓aPre, aPost, oneW, allOne, retV, retVA, simprocAttr]
          clear hs hs10
          rintro s ⟨A, B, hAB, hs⟩
          have hlen : T.length = A.length + B.length := by rw [hAB, List.length_append]
          cases B with
          | nil =>
            rw [List.append_nil] at hAB
            rw [List.length_nil, Nat.add_zero] at hlen
            subst hAB
            rw [e] at hs
            have hle := lensL_len of k
            simp -dsimp -implicitDefEqProofs (disch := first | omega | (simp only [List.length_append, List.length_cons, List.length_nil, List.length_take, List.length_drop]; omega)) only [hs, hll, hle, ↓aPre, aPost, oneW, allOne, retV, retVA, simprocAttr]
            exact post_eq rfl
          | cons p B =>
            rw [List.length_cons] at hlen
            have gp := get_mid (L := T) (A := A) (B := B) (x := p) (i := A.length) hAB rfl
            obtain ⟨q, hq⟩ : ∃ q, q = A.length := ⟨_, rfl⟩
            rw [← hq] at hs gp hlen
            have hgp := hgd p (by rw [hAB]; simp)
            have hpl := li_length (k := .i64) (l := p.2)
            have hti : (its T).length = (its A).length + p.2.length + (its B).length := by rw [hAB, its_app, its_cons]; simp only [List.length_append]; omega
            simp -dsimp -implicitDefEqProofs (disch := first | omega | (simp only [List.length_append, List.length_cons, List.length_nil, List.length_take, List.length_drop]; omega)) only [hs, gp, hTm, hpl, ↓aPre, aPost, oneW, allOne, retV, retVA, simprocAttr]
            have hs0 := hs
            refine loop_of (fun s => ∃ (C E : List Int), p.2 = C ++ E ∧ s.tm 102 = .d (.c (.int .i64 C.length)) ∧ s.tm 101 = .d (.c (.int .i64 p.2.length)) ∧ s.tm 100 = .d (.lst 1 (li .i64 p.2)) ∧ s.tm 95 = .d (.c (.int .i64 q)) ∧ s.tm 94 = .d (.c (.int .i64 T2)) ∧ s.tm 93 = .d (.lst 2 (T.map pcD)) ∧ s.tm 9 = .sl 53 1 0 of.length ∧ s.hp 53 = some (.row 1 (li .i64 (cntL (its A ++ C) of.length)))) (fun s => p.2.length - (avN (s.tm 102)).toNat) ?_ ?_
            · refine ⟨[], p.2, rfl, ?_⟩
              rw [List.append_nil]
              simp -dsimp -implicitDefEqProofs (disch := first | omega | (simp only [List.length_append, List.length_cons, List.length_nil, List.length_take, List.length_drop]; omega)) only [hs, List.length_nil, Int.natCast_zero, ↓aPre, aPost, oneW, allOne, retV, retVA, simprocAttr]
            clear hs
            rintro s ⟨C, E, hCE, hs⟩
            have hlp : p.2.length = C.length + E.length := by rw [hCE, List.length_append]
            cases E with
            | nil =>
              rw [List.append_nil] at hCE
              rw [List.length_nil, Nat.add_zero] at hlp
              have h53 : its A ++ C = its (A ++ [p]) := by rw [its_app, its_cons, ← hCE]; simp [its]
              rw [h53, ← hCE] at hs
              have i2 : (q : Int) + 1 = ((A ++ [p]).length : Int) := by rw [List.length_append, List.length_cons, List.length_nil]; omega
              obtain ⟨q2, hq2⟩ : ∃ q2, q2 = (A ++ [p]).length := ⟨_, rfl⟩
              rw [← hq2] at i2
              simp -dsimp -implicitDefEqProofs (disch := first | omega | (simp only [List.length_append, List.length_cons, List.length_nil, List.length_take, List.length_drop]; omega)) only [hs, i2, ↓aPre, aPost, oneW, allOne, retV, retVA, simprocAttr]
              refine round_of ⟨A ++ [p], B, by rw [hAB]; simp, ?_⟩ ?_
              · rw [← hq2]
                simp -dsimp -implicitDefEqProofs (disch := first | omega | (simp only [List.length_append, List.length_cons, List.length_nil, List.length_take, List.length_drop]; omega)) only [hs, ↓aPre, aPost, oneW, allOne, retV, retVA, simprocAttr]
              · simp -dsimp -implicitDefEqProofs (disch := first | omega | (simp only [List.length_append, List.length_cons, List.length_nil, List.length_take, List.length_drop]; omega)) only [hs, hs0, ↓aPre, aPost, oneW, allOne, retV, retVA, simprocAttr]
                omega
            | cons x E =>
              rw [List.length_cons] at hlp
              have hx := hgp.2 x (by rw [hCE]; simp)
              obtain ⟨c, hc2⟩ : ∃ c : Nat, x = (c : Int) := ⟨x.toNat, by omega⟩
              subst hc2
              have hcl : c < of.length := by omega
              have gx : p.2.getD C.length 0 = (c : Int) := by rw [hCE]; simp [List.getD]
              have hcg := cnt_get (its A ++ C) hcl
              have hcs := cnt_set (its A ++ C) hcl
              have hcl2 := cnt_len (its A ++ C) of.length
              have hcb : (its A ++ C).count (c : Int) ≤ 9000 := by
                have := List.count_le_length (a := (c : Int)) (l := its A ++ C)
                rw [List.length_append] at this
                omega
              obtain ⟨v, hv⟩ : ∃ v, v = (its A ++ C).count (c : Int) := ⟨_, rfl⟩
              rw [← hv] at hcg hcs hcb
              obtain ⟨r, hr⟩ : ∃ r, r = C.length := ⟨_, rfl⟩
              rw [← hr] at hs gx
              have i2 : (r : Int) + 1 = ((C ++ [(c : Int)]).length : Int) := by rw [List.length_append, List.length_cons, List.length_nil]; omega
              obtain ⟨r2, hr2⟩ : ∃ r2, r2 = (C ++ [(c : Int)]).length := ⟨_, rfl⟩
              rw [← hr2] at i2
              simp -dsimp -implicitDefEqProofs (disch := first | omega | (simp only [List.length_append, List.length_cons, List.length_nil, List.length_take, List.length_drop]; omega)) only [hs, hpl, gx, hcg, hcl2, hcs, i2, ↓aPre, aPost, oneW, allOne, retV, retVA, simprocAttr]
              refine round_of ⟨C ++ [(c : Int)], E, by rw [hCE]; simp, ?_⟩ ?_
              · rw [← hr2, ← List.append_assoc]
                simp -dsimp -implicitDefEqProofs (disch := first | omega | (simp only [List.length_append, List.length_cons, List.length_nil, List.length_take, List.length_drop]; omega)) only [hs, hcs, ↓aPre, aPost, oneW, allOne, retV, retVA, simprocAttr]
              · simp -dsimp -implicitDefEqProofs (disch := first | omega | (simp only [List.length_append, List.length_cons, List.length_nil, List.length_take, List.length_drop]; omega)) only [hs, ↓aPre, aPost, oneW, allOne, retV, retVA, simprocAttr]
                omega
theorem lens_long (of : List Int) (L : Nat) (h1 : 1 ≤ L) (h2 : L ≤ 30) (hl : of.length ≤ 300) (hg : GoodL of) (hc : ¬ (sgs of).length ≤ 2 ^ L) : Giv Try.prog 8 [.lst 1 (li .i64 of), .c (.int .i64 L)] (retV [.c (.slice none 0 0), .c (.int .i64 5)]) := by
  refine Giv.of mixed c8 (Nat.le_of_ble_eq_true rfl) ?_
  have hll := li_length (k := .i64) (l := of)
  simp -dsimp -implicitDefEqProofs (disch := first | omega | (simp only [List.length_append, List.length_cons, List.length_nil, List.length_take, List.length_drop]; omega)) only [a8, hll, ↓aPre, aPost, oneW, allOne, retV, retVA, simprocAttr]
  refine loop_nil 6 100 2 (fun s => ∃ (k m : Nat), k ≤ of.length ∧ m = (sgl of k).length ∧ s.tm 0 = .d (.lst 1 (li .i64 of)) ∧ s.tm 1 = .d (.c (.int .i64 L)) ∧ s.tm 26 = .d (.lst 1 (li .i64 of)) ∧ s.tm 27 = .d (.c (.int .i64 of.length)) ∧ s.tm 28 = .d (.c (.int .i64 k)) ∧ s.tm 6 = .sl 100 2 0 m ∧ s.hp 100 = some (.row 2 ((sgl of k).map pcD))) (fun s => of.length - (avN (s.tm 28)).toNat) ?_ (by decide) ?_ ?_
  · simp -dsimp -implicitDefEqProofs (disch := first | omega | (simp only [List.length_append, List.length_cons, List.length_nil, List.length_take, List.length_drop]; omega)) only [↓aPre, aPost, oneW, allOne, retV, retVA, simprocAttr]
  · refine ⟨0, 0, Nat.zero_le _, rfl, ?_⟩
    simp -dsimp -implicitDefEqProofs (disch := first | omega | (simp only [List.length_append, List.length_cons, List.length_nil, List.length_take, List.length_drop]; omega)) only [hll, ↓aPre, aPost, oneW, allOne, retV, retVA, simprocAttr]
    rfl
  rintro s ⟨k, m, hk, hm, hs⟩
  have hml := pcs_len (sgl of k)
  rw [← hm] at hml
  have hmk := sgl_le of k
  by_cases hlt : k < of.length
  · have hb := hg k hlt
    by_cases hp : 0 < of.getD k 0
    · have hr := sgl_row of k hp
      have hm2 : m + 1 = (sgl of (k + 1)).length := by rw [sgl, if_pos hp, hm]; simp
      obtain ⟨z, hz⟩ : ∃ z, z = of.getD k 0 := ⟨_, rfl⟩
      rw [← hz] at hb hp hr
      simp -dsimp -implicitDefEqProofs (disch := first | omega | (simp only [List.length_append, List.length_cons, List.length_nil, List.length_take, List.length_drop]; omega)) only [hs, hll, ← hz, hml, ↓aPre, aPost, oneW, allOne, retV, retVA, simprocAttr]
      refine round_of ⟨k + 1, m + 1, by omega, hm2, ?_⟩ ?_
      · simp -dsimp -implicitDefEqProofs (disch := first | omega | (simp only [List.length_append, List.length_cons, List.length_nil, List.length_take, List.length_drop]; omega)) only [hs, ← hr, ↓aPre, aPost, oneW, allOne, retV, retVA, simprocAttr]
      · simp -dsimp -implicitDefEqProofs (disch := first | omega | (simp only [List.length_append, List.length_cons, List.length_nil, List.length_take, List.length_drop]; omega)) only [hs, ↓aPre, aPost, oneW, allOne, retV, retVA, simprocAttr]
        omega
    · have e := sgl_row0 of k hp
      rw [← e] at hm
      simp -dsimp -implicitDefEqProofs (disch := first | omega | (simp only [List.length_append, List.length_cons, List.length_nil, List.length_take, List.length_drop]; omega)) only [hs, hll, ↓aPre, aPost, oneW, allOne, retV, retVA, simprocAttr]
      refine round_of ⟨k + 1, m, by omega, hm, ?_⟩ ?_
      · simp -dsimp -implicitDefEqProofs (disch := first | omega | (simp only [List.length_append, List.length_cons, List.length_nil, List.length_take, List.length_drop]; omega)) only [hs, e, ↓aPre, aPost, oneW, allOne, retV, retVA, simprocAttr]
      · simp -dsimp -implicitDefEqProofs (disch := first | omega | (simp only [List.length_append, List.length_cons, List.length_nil, List.length_take, List.length_drop]; omega)) only [hs, ↓aPre, aPost, oneW, allOne, retV, retVA, simprocAttr]
        omega
  · obtain rfl : k = of.length := by omega
    have hn := sgs_len of
    rw [← hm] at hn
    have hsh := shl1 L h2
    rw [hn] at hc
    obtain ⟨P2, hP2⟩ : ∃ P2, P2 = 2 ^ L := ⟨_, rfl⟩
    rw [← hP2] at hsh hc
    simp -dsimp -implicitDefEqProofs (disch := first | omega | (simp only [List.length_append, List.length_cons, List.length_nil, List.length_take, List.length_drop]; omega)) only [hs, hll, hsh, ↓aPre, aPost, oneW, allOne, retV, retVA, simprocAttr]
    exact post_eq rfl
theorem lens_arg (ds : D) (n : Nat) (L : Int) (hd : (∃ l : List Int, ds = .lst 1 (li .i64 l) ∧ n = l.length)) (h : L < 1 ∨ L > 30 ∨ 300 < n) (hn : n ≤ 9223372036854775807) : Giv Try.prog 8 [ds, .c (.int .i64 L)] (retV [.c (.slice none 0 0), .c (.int .i64 1)]) := by
  obtain ⟨l, rfl, rfl⟩ := hd
  have hll := li_length (k := .i64) (l := l)
  refine Giv.of mixed c8 (Nat.le_of_ble_eq_true rfl) ?_
  by_cases a : L < 1
  · simp -dsimp -implicitDefEqProofs (disch := first | omega | (simp only [List.length_append, List.length_cons, List.length_nil, List.length_take, List.length_drop]; omega)) only [a8, hll, a, ↓aPre, aPost, oneW, allOne, retV, retVA, simprocAttr]
    exact post_eq rfl
  · by_cases b : L > 30
    · simp -dsimp -implicitDefEqProofs (disch := first | omega | (simp only [List.length_append, List.length_cons, List.length_nil, List.length_take, List.length_drop]; omega)) only [a8, hll, a, b, ↓aPre, aPost, oneW, allOne, retV, retVA, simprocAttr]
      exact post_eq rfl
    · have c : 300 < l.length := by omega
      simp -dsimp -implicitDefEqProofs (disch := first | omega | (simp only [List.length_append, List.length_cons, List.length_nil, List.length_take, List.length_drop]; omega)) only [a8, hll, a, b, ↓aPre, aPost, oneW, allOne, retV, retVA, simprocAttr]
      exact post_eq rfl
theorem lens_neg (of : List Int) (L : Nat) (h1 : 1 ≤ L) (h2 : L ≤ 30) (hl : of.length ≤ 300) (hg : ¬ GoodL of) : Giv Try.prog 8 [.lst 1 (li .i64 of), .c (.int .i64 L)] (retV [.c (.slice none 0 0), .c (.int .i64 1)]) := by
  refine Giv.of mixed c8 (Nat.le_of_ble_eq_true rfl) ?_
  have hll := li_length (k := .i64) (l := of)
  simp -dsimp -implicitDefEqProofs (disch := first | omega | (simp only [List.length_append, List.length_cons, List.length_nil, List.length_take, List.length_drop]; omega)) only [a8, hll, ↓aPre, aPost, oneW, allOne, retV, retVA, simprocAttr]
  refine loop_nil 6 100 2 (fun s => ∃ (k m : Nat), k ≤ of.length ∧ (∀ j, j < k → 0 ≤ of.getD j 0 ∧ of.getD j 0 ≤ 1073741824) ∧ m = (sgl of k).length ∧ s.tm 0 = .d (.lst 1 (li .i64 of)) ∧ s.tm 1 = .d (.c (.int .i64 L)) ∧ s.tm 26 = .d (.lst 1 (li .i64 of)) ∧ s.tm 27 = .d (.c (.int .i64 of.length)) ∧ s.tm 28 = .d (.c (.int .i64 k)) ∧ s.tm 6 = .sl 100 2 0 m ∧ s.hp 100 = some (.row 2 ((sgl of k).map pcD))) (fun s => of.length - (avN (s.tm 28)).toNat) ?_ (by decide) ?_ ?_
  · simp -dsimp -implicitDefEqProofs (disch := first | omega | (simp only [List.length_append, List.length_cons, List.length_nil, List.length_take, List.length_drop]; omega)) only [↓aPre, aPost, oneW, allOne, retV, retVA, simprocAttr]
  · refine ⟨0, 0, Nat.zero_le _, fun j hj => absurd hj (Nat.not_lt_zero _), rfl, ?_⟩
    simp -dsimp -implicitDefEqProofs (disch := first | omega | (simp only [List.length_append, List.length_cons, List.length_nil, List.length_take, List.length_drop]; omega)) only [hll, ↓aPre, aPost, oneW, allOne, retV, retVA, simprocAttr]
    rfl
  rintro s ⟨k, m, hk, hall, hm, hs⟩
  have hml := pcs_len (sgl of k)
  rw [← hm] at hml
  have hmk := sgl_le of k
  by_cases hlt : k < of.length
  · by_cases hb1 : of.getD k 0 < 0
    · obtain ⟨z, hz⟩ : ∃ z, z = of.getD k 0 := ⟨_, rfl⟩
      rw [← hz] at hb1
      simp -dsimp -implicitDefEqProofs (disch := first | omega | (simp only [List.length_append, List.length_cons, List.length_nil, List.length_take, List.length_drop]; omega)) only [hs, hll, ← hz, hml, ↓aPre, aPost, oneW, allOne, retV, retVA, simprocAttr]
      exact post_eq rfl
    by_cases hb2 : of.getD k 0 > 1073741824
    · obtain ⟨z, hz⟩ : ∃ z, z = of.getD k 0 := ⟨_, rfl⟩
      rw [← hz] at hb1 hb2
      simp -dsimp -implicitDefEqProofs (disch := first | omega | (simp only [List.length_append, List.length_cons, List.length_nil, List.length_take, List.length_drop]; omega)) only [hs, hll, ← hz, hml, ↓aPre, aPost, oneW, allOne, retV, retVA, simprocAttr]
      exact post_eq rfl
    have hb : 0 ≤ of.getD k 0 ∧ of.getD k 0 ≤ 1073741824 := by omega
    have hall2 : ∀ j, j < k + 1 → 0 ≤ of.getD j 0 ∧ of.getD j 0 ≤ 1073741824 := fun j hj => by
      by_cases e : j = k
      · rw [e]; exact hb
      · exact hall j (by omega)
    by_cases hp : 0 < of.getD k 0
    · have hr := sgl_row of k hp
      have hm2 : m + 1 = (sgl of (k + 1)).length := by rw [sgl, if_pos hp, hm]; simp
      obtain ⟨z, hz⟩ : ∃ z, z = of.getD k 0 := ⟨_, rfl⟩
      rw [← hz] at hb hp hr hb1 hb2
      simp -dsimp -implicitDefEqProofs (disch := first | omega | (simp only [List.length_append, List.length_cons, List.length_nil, List.length_take, List.length_drop]; omega)) only [hs, hll, ← hz, hml, ↓aPre, aPost, oneW, allOne, retV, retVA, simprocAttr]
      refine round_of ⟨k + 1, m + 1, by omega, hall2, hm2, ?_⟩ ?_
      · simp -dsimp -implicitDefEqProofs (disch := first | omega | (simp only [List.length_append, List.length_cons, List.length_nil, List.length_take, List.length_drop]; omega)) only [hs, ← hr, ↓aPre, aPost, oneW, allOne, retV, retVA, simprocAttr]
      · simp -dsimp -implicitDefEqProofs (disch := first | omega | (simp only [List.length_append, List.length_cons, List.length_nil, List.length_take, List.length_drop]; omega)) only [hs, ↓aPre, aPost, oneW, allOne, retV, retVA, simprocAttr]
        omega
    · have e := sgl_row0 of k hp
      rw [← e] at hm
      simp -dsimp -implicitDefEqProofs (disch := first | omega | (simp only [List.length_append, List.length_cons, List.length_nil, List.length_take, List.length_drop]; omega)) only [hs, hll, ↓aPre, aPost, oneW, allOne, retV, retVA, simprocAttr]
      refine round_of ⟨k + 1, m, by omega, hall2, hm, ?_⟩ ?_
      · simp -dsimp -implicitDefEqProofs (disch := first | omega | (simp only [List.length_append, List.length_cons, List.length_nil, List.length_take, List.length_drop]; omega)) only [hs, e, ↓aPre, aPost, oneW, allOne, retV, retVA, simprocAttr]
      · simp -dsimp -implicitDefEqProofs (disch := first | omega | (simp only [List.length_append, List.length_cons, List.length_nil, List.length_take, List.length_drop]; omega)) only [hs, ↓aPre, aPost, oneW, allOne, retV, retVA, simprocAttr]
        omega
  · obtain rfl : k = of.length := by omega
    exact absurd hall hg
end Go.Proofs.Ytlchakkdgkbabaa

/- A line of the table, walked. No condition but what each says. -/
import Derived.Test.YthbdglibakjfbaaDoorWRules
set_option linter.unusedSimpArgs false
set_option linter.unusedVariables false
set_option maxRecDepth 8000
set_option maxHeartbeats 4000000
set_option linter.unusedSectionVars false
namespace Go.Proofs.YthbdglibakjfbaaDoor
open Go.Eng Go.RowKit
variable [Inhabited Lo]
def ruD (y : Ru) : D := .agg [.c (.int .u16 y.1), .c (.string (strOfNums y.2.1)), .lst 1 (li .i64 y.2.2.1), .c (.int .i64 y.2.2.2)]
def rusD (l : List Ru) : List D := l.map ruD
theorem rusD_len (l : List Ru) : (rusD l).length = l.length := List.length_map ..
theorem rusD_tlen {l : List Ru} {k : Nat} (h : k ≤ l.length) : (rusD (l.take k)).length = k := by
  rw [rusD_len, List.length_take]; omega
/-- the rows of rules ahead of line k -/
def U1 (l : List Ru) (k : Nat) : List (Nat × Ob) := [(2000000, .box [.sl 1000000 4 0 k]), (1000000, .row 4 (rusD (l.take k)))]
theorem line_round {l : List Ru} {k : Nat} (hk : k < l.length) (hl100 : l.length ≤ 100) {tag ct : Int} {nm ks t0 t2 t3 ln : List Int} {kt : List (List Int)} (hsn : rusD (l.take k) ++ [ruD (tag, nm, ks, ct)] = rusD (l.take (k + 1))) (htag : 0 ≤ tag ∧ tag < 65536)
    (hf : Giv Tryd.prog 17 [.c (.string (strOfNums ln))] (retV [.lst 1 [.c (.string (strOfNums t0)), .c (.string (strOfNums nm)), .c (.string (strOfNums t2)), .c (.string (strOfNums t3))]]))
    (h0 : Giv Tryd.prog 18 [.c (.string (strOfNums t0))] (retV [.c (.int .i64 tag), .c .nilIface])) (h3 : Giv Tryd.prog 18 [.c (.string (strOfNums t3))] (retV [.c (.int .i64 ct), .c .nilIface]))
    (hkl : kt.length = ks.length) (hk0 : 0 < kt.length) (hks : ks.length ≤ 100) (hkt : ∀ j, j < kt.length → Giv Tryd.prog 18 [.c (.string (strOfNums (kt.getD j [])))] (retV [.c (.int .i64 (ks.getD j 0)), .c .nilIface]))
    (hseq : SeqC Tryd.prog 47 (strOfNums [44]) kt.length (fun j => strOfNums (joinS 44 (kt.drop j))) (fun j => strOfNums (kt.getD j []))) (ht2 : joinS 44 kt = t2) {sep rst : ByteArray}
    {lr n : Nat} {c' : Cx} (hnt : c'.nt = 56) {Z : Nat → Prop} {M : Nat → Option Nat} {a' : Act} {W : World}
    (R : Rep c' Z M (((S0 [(1, 2000000)] (ItO sep rst ++ U1 l k)).put (some 11) (.d (.c (.string (strOfNums ln))))).put (some 2) (.d (.c (.string (strOfNums ln))))) a' W) (hlp : ∃ r0, W.heap[lr]? = some (.loop r0)) (hne : ∀ m b, M m = some b → b ≠ lr) (hw0 : c'.w0 = W) (hM0 : c'.M0 = M) :
    (Code.block 1 bd1).wpIn (wideR (some lr)) n Tryd.prog (fun e a2 W2 => e = .normal ∧ ∃ Z2 M2 s2, Rep c' Z2 M2 s2 a2 W2 ∧ hpEq s2 (ItO sep rst ++ U1 l (k + 1))) a' W := by
  obtain ⟨s, hse⟩ : ∃ s, s = (((S0 [(1, 2000000)] (ItO sep rst ++ U1 l k)).put (some 11) (.d (.c (.string (strOfNums ln))))).put (some 2) (.d (.c (.string (strOfNums ln))))) := ⟨_, rfl⟩
  have hs : s.tm 1 = .ptr 2000000 0 ∧ s.tm 2 = .d (.c (.string (strOfNums ln))) ∧ s.hp 2000011 = some (.box [.d (.c (.string sep))]) ∧ s.hp 2000012 = some (.box [.d (.c (.string rst))]) ∧ s.hp 2000013 = some (.box [.d (.c (.int .i64 0))]) ∧ s.hp 2000000 = some (.box [.sl 1000000 4 0 k]) ∧ s.hp 1000000 = some (.row 4 (rusD (l.take k))) := by
    subst hse
    exact ⟨rfl, rfl, rfl, rfl, rfl, rfl, rfl⟩
  rw [← hse] at R
  clear hse
  have htl := rusD_tlen (l := l) (k := k) (by omega)
  obtain ⟨wsD, hws⟩ : ∃ wsD : D, wsD = .lst 1 [.c (.string (strOfNums t0)), .c (.string (strOfNums nm)), .c (.string (strOfNums t2)), .c (.string (strOfNums t3))] := ⟨_, rfl⟩
  have hpre : awp Tryd.prog aq1 (pcQ fun s => s.tm 1 = .ptr 2000000 0 ∧ s.tm 3 = .d (.lst 1 [.c (.string (strOfNums t0)), .c (.string (strOfNums nm)), .c (.string (strOfNums t2)), .c (.string (strOfNums t3))]) ∧ s.tm 6 = .ptr 6 0 ∧ s.tm 30 = .fn 47 [.ptr 204 0, .ptr 203 0, .ptr 205 0] ∧ s.hp 204 = some (.box [.d (.c (.string (strOfNums [44])))]) ∧ s.hp 203 = some (.box [.d (.c (.string (strOfNums t2)))]) ∧ s.hp 205 = some (.box [.d (.c (.int .i64 0))]) ∧ s.hp 6 = some (.box [.d (.c (.int .u16 tag)), .d (.c (.string (strOfNums nm))), .sl 300 1 0 0, .d (.c (.int .i64 0))]) ∧ s.hp 300 = some (.row 1 []) ∧ s.hp 2000011 = some (.box [.d (.c (.string sep))]) ∧ s.hp 2000012 = some (.box [.d (.c (.string rst))]) ∧ s.hp 2000013 = some (.box [.d (.c (.int .i64 0))]) ∧ s.hp 2000000 = some (.box [.sl 1000000 4 0 k]) ∧ s.hp 1000000 = some (.row 4 (rusD (l.take k)))) s := by
    simp -dsimp -implicitDefEqProofs (disch := first | omega | (simp only [List.length_append, List.length_cons, List.length_nil, List.length_take, List.length_drop]; omega)) only [aq1, aq1a, aq1b, aq1c, aq1d, hs, ↓aPre, aPost, oneW, allOne, retV, retVA, simprocAttr]
    refine call_giv hf ?_
    simp -dsimp -implicitDefEqProofs (disch := first | omega | (simp only [List.length_append, List.length_cons, List.length_nil, List.length_take, List.length_drop]; omega)) only [hs, ↓aPre, aPost, oneW, allOne, retV, retVA, simprocAttr]
    refine call_giv h0 ?_
    simp -dsimp -implicitDefEqProofs (disch := first | omega | (simp only [List.length_append, List.length_cons, List.length_nil, List.length_take, List.length_drop]; omega)) only [hs, ↓aPre, aPost, oneW, allOne, retV, retVA, simprocAttr]
    refine call_mut (split_m (strOfNums t2) (strOfNums [44])) [(4, 204), (3, 203), (5, 205)] rfl rfl ?_ ?_
    · simp -dsimp -implicitDefEqProofs (disch := first | omega | (simp only [List.length_append, List.length_cons, List.length_nil, List.length_take, List.length_drop]; omega)) only [hs, ↓aPre, aPost, oneW, allOne, retV, retVA, simprocAttr]
    simp -dsimp -implicitDefEqProofs (disch := first | omega | (simp only [List.length_append, List.length_cons, List.length_nil, List.length_take, List.length_drop]; omega)) only [hs, pcQ_n, ↓aPre, aPost, oneW, allOne, retV, retVA, simprocAttr]
    refine pc_gh (Gh.nilB (m := 6) (i := 2) (n := 300) (es := 1) (cs := [.d (.c (.int .u16 tag)), .d (.c (.string (strOfNums nm))), .d (.c (.slice none 0 0)), .d (.c (.int .i64 0))]) (by decide) (by decide) (by decide) (by simp -dsimp -implicitDefEqProofs (disch := first | omega | (simp only [List.length_append, List.length_cons, List.length_nil, List.length_take, List.length_drop]; omega)) only [hs, ↓aPre, aPost, oneW, allOne, retV, retVA, simprocAttr]) rfl) ?_
    simp -dsimp -implicitDefEqProofs (disch := first | omega | (simp only [List.length_append, List.length_cons, List.length_nil, List.length_take, List.length_drop]; omega)) only [hs, List.set_cons_zero, List.set_cons_succ, ↓aPre, aPost, oneW, allOne, retV, retVA, simprocAttr]
  have hO : ∀ (a : Act) (w : World), ¬ (Exit.inBlock 1 (fun e a2 W2 => e = .normal ∧ ∃ Z2 M2 s2, Rep c' Z2 M2 s2 a2 W2 ∧ hpEq s2 (ItO sep rst ++ U1 l (k + 1)))) .outgrown a w := fun a w h => by cases h.1
  refine wpIn_block ?_
  rw [bd1_is]
  refine piece_cons (own := []) (prot := []) (by rw [hnt]; exact cq1a) (by kernel_rfl) R hpre hO fun Z1 M1 s1 a1 w1 R1 h1 => ?_
  refine piece_cons (own := []) (prot := []) (by rw [hnt]; exact cq1b) (by kernel_rfl) R1 h1 hO fun Z2 M2 s2 a2 w2 R2 h2 => ?_
  refine piece_cons (own := []) (prot := []) (by rw [hnt]; exact cq1c) (by kernel_rfl) R2 h2 hO fun Z3 M3 s3 a3 w3 R3 h3 => ?_
  refine wpIn_seq (piece_seq (own := [3000016]) (prot := []) (by rw [hnt]; exact cq1d) (by kernel_rfl) R3 h3 (fun a w h => hO a w h) fun Z4 M4 s4 a4 w4 R4 hF => ?_)
  clear R1 h1 R2 h2 R3 h3 hpre hs R
  have hlp4 : ∀ l0, some lr = some l0 → ∃ r0, w4.heap[l0]? = some (.loop r0) := fun l0 e => by
    cases e
    obtain ⟨r0, h⟩ := hlp
    refine ⟨r0, ?_⟩
    rw [R4.fr.block lr (by rw [hw0]; exact (Array.getElem?_eq_some_iff.1 h).1) (fun ⟨m, hm⟩ => hne m lr (by rw [← hM0]; exact hm) rfl), hw0]
    exact h
  refine wpIn_block (wpIn_mono (rf_in (r := some lr) (l := [(2000000, 6), (1000000, 300), (2000011, 204), (2000012, 203), (2000013, 205)]) (T := [(6, 2000000)]) (g := 30) (p := 31) (q := 7) R4 (U2 tag nm ks) hk0 hseq (enters_of Tryd.func47 (by kernel_rfl) rfl)
    (fun j _ => rfl) (fun m hm => by
      simp only [U2, List.map_cons, List.map_nil, List.mem_cons, List.not_mem_nil, or_false] at hm
      rcases hm with rfl | rfl <;> decide)
    (fun j _ p hp => by
      simp only [U2, List.mem_cons, List.not_mem_nil, or_false] at hp
      rcases hp with rfl | rfl <;> rfl)
    (fun j _ p hp => by
      simp only [U2, List.mem_cons, List.not_mem_nil, or_false] at hp
      rcases hp with rfl | rfl <;> rfl) (show List.Nodup [204, 203, 205, 6, 300] by decide) (fun m hm => by
      simp only [U2, List.map_cons, List.map_nil, List.mem_cons, List.not_mem_nil, or_false] at hm
      rcases hm with rfl | rfl <;> decide) ?_ (fun q hq => by
      simp only [List.mem_cons, List.not_mem_nil, or_false] at hq
      subst hq
      exact ⟨hF.2.2.1, by decide, by simp [U2]⟩) (by rw [hnt]; decide) (by rw [hnt]; decide) hF.2.2.2.1 hlp4 (fun lr n a W K hK => ?_) fun j hj lr n c'' Z M a' W hnt' R hl hne hw hm => ?_) fun e a5 w5 h => ?_)
  · obtain ⟨f1, f3, f6, f30, f204, f203, f205, hf6, f300, _⟩ := hF
    refine ⟨f204, ?_, f205, hf6, f300, trivial⟩
    show s4.hp 203 = _
    rw [f203, List.drop_zero, ht2]
    rfl
  · obtain ⟨e1, e2, e3, e4⟩ := as2_is
    rw [e1]
    exact asg_in e2 e3 e4 hK
  · have := kind_round (tag := tag) (nm := nm) (ks := ks) (j := j) (by omega) hks (hkt j hj) (hnt'.trans hnt) R (lr := lr) (n := n)
    exact this
  · obtain ⟨rfl, Z5, M5, R5, hE⟩ := h
    obtain rfl : a5 = a4 := hE
    have hls : ks.take (kt.length) = ks := take_all (by omega)
    obtain ⟨s5, h5⟩ : ∃ s5, s5 = s4.mut [(2000000, 6), (1000000, 300), (2000011, 204), (2000012, 203), (2000013, 205)] (ItO (strOfNums [44]) (strOfNums (joinS 44 (kt.drop (kt.length - 1)))) ++ U2 tag nm ks kt.length) := ⟨_, rfl⟩
    rw [← h5] at R5
    have hs5 : s5.tm 1 = .ptr 2000000 0 ∧ s5.tm 3 = .d (.lst 1 [.c (.string (strOfNums t0)), .c (.string (strOfNums nm)), .c (.string (strOfNums t2)), .c (.string (strOfNums t3))]) ∧ s5.tm 6 = .ptr 6 0 ∧ s5.hp 6 = some (.box [.d (.c (.int .u16 tag)), .d (.c (.string (strOfNums nm))), .sl 300 1 0 ks.length, .d (.c (.int .i64 0))]) ∧ s5.hp 300 = some (.row 1 (li .i64 ks)) ∧ s5.hp 2000011 = some (.box [.d (.c (.string sep))]) ∧ s5.hp 2000012 = some (.box [.d (.c (.string rst))]) ∧ s5.hp 2000013 = some (.box [.d (.c (.int .i64 0))]) ∧ s5.hp 2000000 = some (.box [.sl 1000000 4 0 k]) ∧ s5.hp 1000000 = some (.row 4 (rusD (l.take k))) := by
      rw [h5]
      unfold ItO U2
      rw [hls, hkl]
      simp only [List.cons_append, List.nil_append]
      simp -dsimp -implicitDefEqProofs (disch := first | omega | (simp only [List.length_append, List.length_cons, List.length_nil, List.length_take, List.length_drop]; omega)) only [hF, ↓aPre, aPost, oneW, allOne, retV, retVA, simprocAttr]
    clear h5
    show (q3).wpIn _ _ _ (Exit.inBlock 1 _) _ _
    refine wpIn_mono (piece_in (own := []) (prot := []) (F := fun s2 => hpEq s2 (ItO sep rst ++ U1 l (k + 1))) (by rw [hnt]; exact cq3) (by kernel_rfl) R5 ?_) fun e a6 w6 h => ?_
    · simp -dsimp -implicitDefEqProofs (disch := first | omega | (simp only [List.length_append, List.length_cons, List.length_nil, List.length_take, List.length_drop]; omega)) only [aq3, hs5, ↓aPre, aPost, oneW, allOne, retV, retVA, simprocAttr]
      refine call_giv h3 ?_
      simp -dsimp -implicitDefEqProofs (disch := first | omega | (simp only [List.length_append, List.length_cons, List.length_nil, List.length_take, List.length_drop]; omega)) only [hs5, htl, pcQ_n, li_length, ↓aPre, aPost, oneW, allOne, retV, retVA, simprocAttr]
      refine pc_of ?_
      have hsn' : rusD (l.take k) ++ [.agg [.c (.int .u16 tag), .c (.string (strOfNums nm)), .lst 1 (li .i64 ks), .c (.int .i64 ct)]] = rusD (l.take (k + 1)) := hsn
      show hpEq _ [(2000011, .box [.d (.c (.string sep))]), (2000012, .box [.d (.c (.string rst))]), (2000013, .box [.d (.c (.int .i64 0))]), (2000000, .box [.sl 1000000 4 0 (k + 1)]), (1000000, .row 4 (rusD (l.take (k + 1))))]
      simp -dsimp -implicitDefEqProofs (disch := first | omega | (simp only [List.length_append, List.length_cons, List.length_nil, List.length_take, List.length_drop]; omega)) only [hs5, hsn', ↓aPre, aPost, oneW, allOne, retV, retVA, simprocAttr]
    · obtain ⟨rfl, h⟩ := h
      exact ⟨rfl, h⟩
end Go.Proofs.YthbdglibakjfbaaDoor

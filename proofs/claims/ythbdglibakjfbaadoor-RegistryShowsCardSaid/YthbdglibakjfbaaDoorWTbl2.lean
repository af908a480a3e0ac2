/- registry.Rules, walked: the rules as data. No condition. -/
import Derived.Test.YthbdglibakjfbaaDoorWTbl
set_option linter.unusedSimpArgs false
set_option linter.unusedVariables false
set_option maxRecDepth 8000
set_option maxHeartbeats 4000000
set_option linter.unusedSectionVars false
namespace Go.Proofs.YthbdglibakjfbaaDoor
open Go.Eng Go.RowKit
variable [Inhabited Lo]
def ao4 : List AOper := [⟨some 55, .ld (.tmp 1), none⟩, ⟨some 0, .mov (.tmp 55), none⟩]
theorem co4 : (List.range (opsOf q4).size).mapM (cmpO Tryd.prog [] 56 (opsOf q4)) = some ao4 := by kernel_rfl
theorem rules_giv : Giv Tryd.prog 5 [] (retV [.lst 4 (rusD ruls)]) := by
  refine .inl ⟨by kernel_rfl, fun Z w vs hz ht hv => ?_⟩
  have hR0 := Rep.init (nt := 56) (w := w) (Z := Z) ht hz hv (by decide) (by decide)
  have hv0 : vs = [] := by unfold DRt at hv; exact hv
  subst hv0
  refine (callsIn_wide (n := 0)).1 (callsIn_of_wp_marks Tryd.func5 cd5_is trivial ?_ rfl)
  have hpre : awp Tryd.prog (.seq aq0a (.seq aq0b aq0c)) (pcQ fun s => s.tm 1 = .ptr 1 0 ∧ s.tm 10 = .fn 47 [.ptr 204 0, .ptr 203 0, .ptr 205 0] ∧ s.hp 204 = some (.box [.d (.c (.string (strOfNums [10])))]) ∧ s.hp 203 = some (.box [.d (.c (.string (strOfNums tblT)))]) ∧ s.hp 205 = some (.box [.d (.c (.int .i64 0))]) ∧ s.hp 1 = some (.box [.sl 300 4 0 0]) ∧ s.hp 300 = some (.row 4 [])) (St.init []) := by
    obtain ⟨T, hT⟩ : ∃ T, T = strOfNums tblT := ⟨_, rfl⟩
    unfold aq0c
    rw [← hT]
    simp -dsimp -implicitDefEqProofs (disch := first | omega | (simp only [List.length_append, List.length_cons, List.length_nil, List.length_take, List.length_drop]; omega)) only [aq0a, aq0b, ↓aPre, aPost, oneW, allOne, retV, retVA, simprocAttr]
    refine call_mut (split_m T (strOfNums [10])) [(4, 204), (3, 203), (5, 205)] rfl rfl ?_ ?_
    · simp -dsimp -implicitDefEqProofs (disch := first | omega | (simp only [List.length_append, List.length_cons, List.length_nil, List.length_take, List.length_drop]; omega)) only [↓aPre, aPost, oneW, allOne, retV, retVA, simprocAttr]
    simp -dsimp -implicitDefEqProofs (disch := first | omega | (simp only [List.length_append, List.length_cons, List.length_nil, List.length_take, List.length_drop]; omega)) only [pcQ_n, ↓aPre, aPost, oneW, allOne, retV, retVA, simprocAttr]
    refine pc_gh (Gh.nilB (m := 1) (i := 0) (n := 300) (es := 4) (cs := [.d (.c (.slice none 0 0))]) (by decide) (by decide) (by decide) (by simp -dsimp -implicitDefEqProofs (disch := first | omega | (simp only [List.length_append, List.length_cons, List.length_nil, List.length_take, List.length_drop]; omega)) only [↓aPre, aPost, oneW, allOne, retV, retVA, simprocAttr]) rfl) ?_
    simp -dsimp -implicitDefEqProofs (disch := first | omega | (simp only [List.length_append, List.length_cons, List.length_nil, List.length_take, List.length_drop]; omega)) only [List.set_cons_zero, ↓aPre, aPost, oneW, allOne, retV, retVA, simprocAttr]
  have hO : ∀ (a : Act) (w' : World), ¬ (bodyPostM Fence.wide 0 Tryd.prog Tryd.f5 (fun e w' => ∃ v Z', e = .returned v ∧ Done Z w Z' w' ∧ ∀ M, AR Z' M w' (retV [.lst 4 (rusD ruls)]) v)) .outgrown a w' := fun a w' h => by
    obtain ⟨v, Z', h, _⟩ := h
    cases h
  refine piece_cons (r := none) (own := [3000016]) (prot := []) cq0a (by kernel_rfl) hR0 hpre hO fun Z1 M1 s1 a1 w1 R1 h1 => ?_
  refine piece_cons (r := none) (own := [3000016]) (prot := []) cq0b (by kernel_rfl) R1 h1 hO fun Z2 M2 s2 a2 w2 R2 h2 => ?_
  refine wpIn_seq (piece_seq (r := none) (own := [3000016]) (prot := []) cq0c (by kernel_rfl) R2 h2 (fun a w' h => hO a w' h) fun Z4 M4 s4 a4 w4 R4 hF => ?_)
  clear R1 h1 R2 h2 hpre
  have hls : (rulT.map lineT).length = 55 := by rw [List.length_map, rulT_len]
  have hsq := seq_lines
  rw [hls] at hsq
  refine wpIn_block (wpIn_mono (rf_in (r := none) (l := [(2000000, 1), (1000000, 300), (2000011, 204), (2000012, 203), (2000013, 205)]) (T := [(1, 2000000)]) (g := 10) (p := 11) (q := 2) R4 (U1 ruls) (by decide) hsq (enters_of Tryd.func47 (by kernel_rfl) rfl)
    (fun j _ => rfl) (fun m hm => by
      simp only [U1, List.map_cons, List.map_nil, List.mem_cons, List.not_mem_nil, or_false] at hm
      rcases hm with rfl | rfl <;> decide)
    (fun j _ p hp => by
      simp only [U1, List.mem_cons, List.not_mem_nil, or_false] at hp
      rcases hp with rfl | rfl <;> rfl)
    (fun j _ p hp => by
      simp only [U1, List.mem_cons, List.not_mem_nil, or_false] at hp
      rcases hp with rfl | rfl <;> rfl) (show List.Nodup [204, 203, 205, 1, 300] by decide) (fun m hm => by
      simp only [U1, List.map_cons, List.map_nil, List.mem_cons, List.not_mem_nil, or_false] at hm
      rcases hm with rfl | rfl <;> decide) ?_ (fun q hq => by
      simp only [List.mem_cons, List.not_mem_nil, or_false] at hq
      subst hq
      exact ⟨hF.1, by decide, by simp [U1]⟩) (show 11 < 56 by decide) (show 2 < 56 by decide) hF.2.1 (fun l0 e => by cases e) (fun lr n a W K hK => ?_) fun j hj lr n c'' Z M a' W hnt' R hl hne hw hm => ?_) fun e a5 w5 h => ?_)
  · obtain ⟨f1, f10, f204, f203, f205, hf1, f300⟩ := hF
    refine ⟨f204, ?_, f205, hf1, f300, trivial⟩
    show s4.hp 203 = _
    rw [f203, List.drop_zero]
    rfl
  · obtain ⟨e1, e2, e3, e4⟩ := as1_is
    rw [e1]
    exact asg_in e2 e3 e4 hK
  · exact one_line hj hnt' R hl hne hw hm
  · obtain ⟨rfl, Z5, M5, R5, hE⟩ := h
    obtain ⟨D, rfl, hD1, hD2, hD3⟩ : ∃ D, a5 = { a4 with defers := [{ target := .collected D, args := #[] }] } ∧ w5.heap[D]? = some (.deferred (some [])) ∧ w4.heap.size ≤ D ∧ ¬ Z5 D := hE
    have hls2 : ruls.take 55 = ruls := List.take_of_length_le (by rw [ruls_len]; decide)
    obtain ⟨s5, h5⟩ : ∃ s5, s5 = s4.mut [(2000000, 1), (1000000, 300), (2000011, 204), (2000012, 203), (2000013, 205)] (ItO (strOfNums [10]) (strOfNums (joinS 10 ((rulT.map lineT).drop (55 - 1)))) ++ U1 ruls 55) := ⟨_, rfl⟩
    rw [← h5] at R5
    have hs5 : s5.tm 1 = .ptr 1 0 ∧ s5.hp 1 = some (.box [.sl 300 4 0 55]) ∧ s5.hp 300 = some (.row 4 (rusD ruls)) := by
      rw [h5]
      unfold ItO U1
      rw [hls2]
      simp only [List.cons_append, List.nil_append]
      simp -dsimp -implicitDefEqProofs (disch := first | omega | (simp only [List.length_append, List.length_cons, List.length_nil, List.length_take, List.length_drop]; omega)) only [hF, ↓aPre, aPost, oneW, allOne, retV, retVA, simprocAttr]
    clear h5
    show (Code.seq q4 .ret).wpIn (wideR none) 0 Tryd.prog _ (wd a4 [{ target := .collected D, args := #[] }]) w5
    rw [q4_is]
    refine wpIn_seq (wpIn_region (takes_inD (d := [{ target := .collected D, args := #[] }]) _ _ co4 (by decide) R5 (K := fun s => s.tm 0 = .sl 300 4 0 55 ∧ s.hp 300 = some (.row 4 (rusD ruls))) ?_ fun s6 a6 R6 h6 => ?_))
    · show awp Tryd.prog (.ops ao4) (fun _ s => s.tm 0 = .sl 300 4 0 55 ∧ s.hp 300 = some (.row 4 (rusD ruls))) s5
      simp -dsimp -implicitDefEqProofs (disch := first | omega | (simp only [List.length_append, List.length_cons, List.length_nil, List.length_take, List.length_drop]; omega)) only [ao4, hs5, ↓aPre, aPost, oneW, allOne, retV, retVA, simprocAttr]
    · refine wpIn_ret ?_
      show LeavesInM Fence.wide 0 Tryd.prog Tryd.f5 a6.tmps _ [{ target := .collected D, args := #[] }] .returning w5
      have hv0 := R6.tm 0
      rw [h6.1] at hv0
      have hrl : (rusD ruls).length = 55 := by rw [rusD_len, ruls_len]
      obtain ⟨Z7, s7, d, hz7, R7, hd, _, rfl⟩ := slD_sound R6 hv0 (K := fun _ d => d = .lst 4 (rusD ruls)) (by
        unfold slD
        rw [h6.2]
        exact ⟨by decide, rfl, by rw [hrl]; omega, by rw [List.drop_zero, ← hrl, List.take_length]⟩)
      refine ⟨by simp, .inl ⟨D, _, rfl, run_takeDeferred hD1, ?_⟩⟩
      have hDw : w.heap.size ≤ D := Nat.le_trans R4.fr.size hD2
      have hcell : ∀ b o, (w5.putObj D (.deferred none)).cell? ⟨b, o, none⟩ = w5.cell? ⟨b, o, none⟩ := fun b o => by
        by_cases e : b = D
        · subst e
          unfold World.cell?
          rw [World.putObj_heap_same (Array.getElem?_eq_some_iff.1 hD1).1, hD1]
        · exact cell_of_heap (World.putObj_heap_other e) o
      have hdn := Rep.done (c := cx Z w 56 ht) R7
      refine ⟨_, results_tmp rfl _ _ _, _, Z7, rfl, ⟨hdn.sub, hdn.new, fun b hb => by rw [World.putObj_size]; exact hdn.lt b hb, hdn.below.os, hdn.below.tape, hdn.below.output, by rw [World.putObj_size]; exact hdn.below.size, fun b hb => ?_⟩, fun M => ?_⟩
      · rw [World.putObj_heap_other (by omega)]
        exact hdn.below.block b hb
      · unfold retV
        unfold AR
        exact DR.keep ⟨fun _ h => h, fun b o _ => hcell b o⟩ _ _ hd
end Go.Proofs.YthbdglibakjfbaaDoor

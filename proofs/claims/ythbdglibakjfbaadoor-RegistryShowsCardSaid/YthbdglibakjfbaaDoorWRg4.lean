/- A range over strings.SplitSeq's function, on a walk's states: the law itself. No condition but what it says. -/
import Derived.Test.YthbdglibakjfbaaDoorWRg3
set_option linter.unusedSimpArgs false
set_option linter.unusedVariables false
set_option maxHeartbeats 2000000
set_option linter.unusedSectionVars false
namespace Go.Eng
open Go.RowKit
variable [Inhabited Lo]
theorem nodup_of_map (f : Nat → Nat) : ∀ {l : List Nat}, (l.map f).Nodup → l.Nodup
  | [], _ => .nil
  | x :: l, h => by
    simp only [List.map_cons, List.nodup_cons] at h ⊢
    exact ⟨fun hx => h.1 (List.mem_map.2 ⟨x, hx, rfl⟩), nodup_of_map f h.2⟩
 mutual
theorem okN_mono {ns ms : List Nat} (h : ∀ n, n ∈ ns → n ∈ ms) : ∀ v : AV, v.okN ns = true → v.okN ms = true
  | .ptr n o, h0 => by unfold AV.okN at h0 ⊢; rw [List.contains_iff_mem] at h0 ⊢; exact h _ h0
  | .eptr n es i j, h0 => by unfold AV.okN at h0 ⊢; rw [List.contains_iff_mem] at h0 ⊢; exact h _ h0
  | .sl n es o le, h0 => by unfold AV.okN at h0 ⊢; rw [List.contains_iff_mem] at h0 ⊢; exact h _ h0
  | .mp n, h0 => by unfold AV.okN at h0 ⊢; rw [List.contains_iff_mem] at h0 ⊢; exact h _ h0
  | .agg cs, h0 => by unfold AV.okN at h0 ⊢; exact okNL_mono h cs h0
  | .tup cs, h0 => by unfold AV.okN at h0 ⊢; exact okNL_mono h cs h0
  | .fn f cs, h0 => by unfold AV.okN at h0 ⊢; exact okNL_mono h cs h0
  | .any, _ => by unfold AV.okN; rfl
  | .d x, _ => by unfold AV.okN; rfl
theorem okNL_mono {ns ms : List Nat} (h : ∀ n, n ∈ ns → n ∈ ms) : ∀ vs : List AV, AV.okNL ns vs = true → AV.okNL ms vs = true
  | [], _ => by unfold AV.okNL; rfl
  | x :: xs, h0 => by
    unfold AV.okNL at h0 ⊢
    rw [Bool.and_eq_true] at h0 ⊢
    exact ⟨okN_mono h x h0.1, okNL_mono h xs h0.2⟩
end
section
variable {P : Program} {c : Cx} {Z1 : Nat → Prop} {M1 : Nat → Option Nat} {s1 : St} {a : Act} {w : World} {r : Option Nat} {n : Nat}
/-- what is left behind the loop, but for the objects: the slots as they were; at an outermost loop the mark of its block -/
def RfEnd (r : Option Nat) (w : World) (a a2 : Act) (Z2 : Nat → Prop) (w2 : World) : Prop := match r with
  | some _ => a2 = a
  | none => ∃ D, a2 = { a with defers := [{ target := .collected D, args := #[] }] } ∧ w2.heap[D]? = some (.deferred (some [])) ∧ w.heap.size ≤ D ∧ ¬ Z2 D
theorem enter_ex (a : Act) (w : World) (r : Option Nat) (hr : ∀ l0, r = some l0 → ∃ r0, w.heap[l0]? = some (.loop r0)) (fn : FuncId) (p : Nat) (assign body : Code) : ∃ (lr : Nat) (mark : List Deferred) (W1 : World) (df : Nat),
    (Instr.enterLoop fn a.tmps #[p] assign body r).run P w = .ok (lr, mark) W1 ∧ W1.heap[lr]? = some (.loop { state := .ready, pending := none, fn, tmps := a.tmps, params := #[p], assign, body, defers := df }) ∧ w.grownBy W1 none ∧ w.heap.size ≤ lr ∧ lr < W1.heap.size ∧
    (match r with
     | some _ => mark = []
     | none => ∃ D, mark = [{ target := .collected D, args := #[] }] ∧ W1.heap[D]? = some (.deferred (some [])) ∧ w.heap.size ≤ D ∧ D < W1.heap.size ∧ D ≠ lr) := by
  cases r with
  | some l0 =>
    obtain ⟨r0, h0⟩ := hr l0 rfl
    refine ⟨w.heap.size, [], _, _, run_enterLoop_inner h0 _ _ _ _ _, World.alloc_heap_new _ _, World.grownBy_alloc _ _ _, Nat.le_refl _, by simp, rfl⟩
  | none =>
    refine ⟨w.heap.size + 1, _, _, w.heap.size, run_enterLoop_outer _ _ _ _ _, ?_, ?_, by omega, by simp, w.heap.size, rfl, ?_, Nat.le_refl _, by simp; omega, by omega⟩
    · have := World.alloc_heap_new (w.alloc (.deferred (some []))) (.loop { state := .ready, pending := none, fn, tmps := a.tmps, params := #[p], assign, body, defers := w.heap.size })
      rwa [World.size_alloc] at this
    · have h1 := World.grownBy_alloc w (.deferred (some [])) none
      have h2 := World.grownBy_alloc (w.alloc (.deferred (some []))) (.loop { state := .ready, pending := none, fn, tmps := a.tmps, params := #[p], assign, body, defers := w.heap.size }) none
      exact ⟨h2.os.trans h1.os, h2.tape.trans h1.tape, h2.output.trans h1.output, Nat.le_trans h1.size h2.size, fun k hk hn => (h2.block k (Nat.lt_of_lt_of_le hk h1.size) hn).trans (h1.block k hk hn)⟩
    · exact (Below.heap_alloc _ _ _ (by simp)).trans (World.alloc_heap_new w _)
theorem rf_in (R1 : Rep c Z1 M1 s1 a w) {l T : List (Nat × Nat)} {g p q gf N : Nat} {sep : ByteArray} {rest piece : Nat → ByteArray} (U : Nat → List (Nat × Ob)) {assign body : Code} (hN : 0 < N) (hseq : SeqC P gf sep N rest piece) (eg : ∀ args w, (callFunc gf args).run P w = .ok (.enter gf args) w)
    (hfst : ∀ k, k ≤ N → (U k).map (·.1) = (U 0).map (·.1)) (hge : ∀ n, n ∈ (U 0).map (·.1) → 1000000 ≤ n ∧ n ≠ 2000011 ∧ n ≠ 2000012 ∧ n ≠ 2000013) (hlv : ∀ k, k ≤ N → ∀ p, p ∈ U k → p.2.live = true) (hok : ∀ k, k ≤ N → ∀ p, p ∈ U k → p.2.okN ((U 0).map (·.1)) = true)
    (hB : ((2000011 :: 2000012 :: 2000013 :: (U 0).map (·.1)).map (rn l)).Nodup) (hB2 : ∀ n, n ∈ (U 0).map (·.1) → 2000000 ≤ n ∨ rn l n < 2000000) (hhp : hpAll l s1 (ItO sep (rest 0) ++ U 0))
    (hT : ∀ q, q ∈ T → s1.tm q.1 = .ptr (rn l q.2) 0 ∧ 2000000 ≤ q.2 ∧ q.2 ∈ (U 0).map (·.1)) (hpt : p < c.nt) (hqt : q < c.nt)
    (hg : s1.tm g = .fn gf [.ptr (rn l 2000011) 0, .ptr (rn l 2000012) 0, .ptr (rn l 2000013) 0]) (hr : ∀ l0, r = some l0 → ∃ r0, w.heap[l0]? = some (.loop r0))
    (hassign : ∀ (lr n : Nat) (a : Act) (W : World) (K : Act → World → Prop), K (a.put (some q) (a.tmps.getD p undef)) W → assign.wpIn (wideR (some lr)) n P (Exit.then K (fun _ _ _ => False)) a W)
    (hround : ∀ k, k < N → ∀ (lr n : Nat) (c' : Cx) (Z : Nat → Prop) (M : Nat → Option Nat) (a' : Act) (W : World), c'.nt = c.nt → Rep c' Z M (((S0 T (ItO sep (rest k) ++ U k)).put (some p) (.d (.c (.string (piece k))))).put (some q) (.d (.c (.string (piece k))))) a' W → (∃ r0, W.heap[lr]? = some (.loop r0)) → (∀ m b, M m = some b → b ≠ lr) → c'.w0 = W → c'.M0 = M →
      body.wpIn (wideR (some lr)) n P (fun e a2 W2 => e = .normal ∧ ∃ Z2 M2 s2, Rep c' Z2 M2 s2 a2 W2 ∧ hpEq s2 (ItO sep (rest k) ++ U (k + 1))) a' W) :
    (Code.rangeFunc (.tmp g) #[p] assign body).wpIn (wideR r) n P (fun e a2 w2 => e = .normal ∧ ∃ Z2 M2, Rep c Z2 M2 (s1.mut l (ItO sep (rest (N - 1)) ++ U N)) a w2 ∧ RfEnd r w a a2 Z2 w2) a w := by
  have hnm : ∀ k, k ≤ N → ∀ x, (ItO sep x ++ U k).map (·.1) = 2000011 :: 2000012 :: 2000013 :: (U 0).map (·.1) := fun k hk x => by rw [mapfst_it, hfst k hk]
  obtain ⟨nms, hnms⟩ : ∃ nms, nms = 2000011 :: 2000012 :: 2000013 :: (U 0).map (·.1) := ⟨_, rfl⟩
  rw [← hnms] at hB
  have hnm' : ∀ k, k ≤ N → ∀ x, (ItO sep x ++ U k).map (·.1) = nms := fun k hk x => (hnm k hk x).trans hnms.symm
  have hgeA : ∀ n, n ∈ nms → 1000000 ≤ n := fun n hn => by
    rw [hnms] at hn
    simp only [List.mem_cons] at hn
    rcases hn with rfl | rfl | rfl | hn
    · decide
    · decide
    · decide
    · exact (hge n hn).1
  have hlvA : ∀ k, k ≤ N → ∀ x p, p ∈ ItO sep x ++ U k → p.2.live = true := fun k hk x p hp => by
    rcases List.mem_append.1 hp with h | h
    · simp only [ItO, List.mem_cons, List.not_mem_nil, or_false] at h
      rcases h with rfl | rfl | rfl <;> rfl
    · exact hlv k hk p h
  have hokA : ∀ k, k ≤ N → ∀ x p, p ∈ ItO sep x ++ U k → p.2.okN nms = true := fun k hk x p hp => by
    rcases List.mem_append.1 hp with h | h
    · simp only [ItO, List.mem_cons, List.not_mem_nil, or_false] at h
      rcases h with rfl | rfl | rfl <;> rfl
    · have h0 := hok k hk p h
      have hm : ∀ n, n ∈ (U 0).map (·.1) → n ∈ nms := fun n hn => by rw [hnms]; simp [hn]
      cases ho : p.2 with
      | box cs =>
        rw [ho] at h0
        unfold Ob.okN at h0 ⊢
        exact okNL_mono hm cs h0
      | row es L => rfl
      | map k L => rfl
      | itr t q => rfl
      | tab cs => rw [ho] at h0; cases h0
      | ice es L => rw [ho] at h0; cases h0
      | icb cs => rw [ho] at h0; cases h0
  have hnd : ∀ k, k ≤ N → ∀ x, ((ItO sep x ++ U k).map fun p => rn l p.1).Nodup := fun k hk x => by
    have e : ((ItO sep x ++ U k).map fun p => rn l p.1) = ((ItO sep x ++ U k).map (·.1)).map (rn l) := by rw [List.map_map]; rfl
    rw [e, hnm' k hk]
    exact hB
  have hgl : ∀ n b, (if n ∈ (ItO sep (rest 0) ++ U 0).map (·.1) then M1 (rn l n) else none) = some b → ¬ Gl b := fun n b h => by
    by_cases hn : n ∈ (ItO sep (rest 0) ++ U 0).map (·.1)
    · rw [if_pos hn] at h
      obtain ⟨p, hp, rfl⟩ := List.mem_map.1 hn
      exact R1.gl ⟨_, hpAll_get hhp p hp, by rw [Ob.rho_live]; exact hlvA 0 (Nat.zero_le _) _ p hp⟩ h
    · rw [if_neg hn] at h; cases h
  refine wpIn_rangeFunc ?_
  intro fn hfn
  obtain ⟨lr, mark, W1, df, hent, hL1, hgr, hlr1, hlr2, hmk⟩ := enter_ex (P := P) a w r hr fn p assign body
  -- the state ahead of the rounds
  have RL := R1.lend (l := l) (T := T) (obs := ItO sep (rest 0) ++ U 0) (fun n hn => hgeA n (by rwa [hnm' 0 (Nat.zero_le _)] at hn)) (hlvA 0 (Nat.zero_le _) _) (by rw [hnm' 0 (Nat.zero_le _)]; exact hokA 0 (Nat.zero_le _) _) (hnd 0 (Nat.zero_le _) _) hhp
    (fun q hq => ⟨(hT q hq).1, by rw [hnm 0 (Nat.zero_le _)]; simp [(hT q hq).2.2]⟩) hgl
  obtain ⟨M0, hM0⟩ : ∃ M0, M0 = fun n => if n ∈ (ItO sep (rest 0) ++ U 0).map (·.1) then M1 (rn l n) else none := ⟨_, rfl⟩
  have hM0w : ∀ n b, M0 n = some b → b < w.heap.size := fun n b h => by
    rw [hM0] at h
    dsimp only at h
    split at h
    · exact R1.mlt h
    · cases h
  have hgl0 : ∀ n b, M0 n = some b → ¬ Gl b := by rw [hM0]; exact hgl
  have R0 : Rep ⟨Z1, W1, c.nt, M0, (R1.grow hgr).tw, hgl0⟩ Z1 M0 (S0 T (ItO sep (rest 0) ++ U 0)) a W1 := by
    have RG := RL.grow hgr
    have hm : ∀ n, n < 1000000 → M0 n = none := fun n hn => by
      rw [hM0]
      refine if_neg fun h => ?_
      rw [hnm' 0 (Nat.zero_le _)] at h
      have := hgeA n h
      omega
    subst hM0
    exact RG.move (fun _ _ => rfl) (fun _ _ _ => rfl) (Nat.le_refl _) hm hgl0 _
  obtain ⟨c0, hc0⟩ : ∃ c0 : Cx, c0 = ⟨Z1, W1, c.nt, M0, (R1.grow hgr).tw, hgl0⟩ := ⟨_, rfl⟩
  have e0 : c0.w0 = W1 := by rw [hc0]
  have e1 : c0.M0 = M0 := by rw [hc0]
  have e2 : c0.nt = c.nt := by rw [hc0]
  have e3 : c0.Z0 = Z1 := by rw [hc0]
  rw [← hc0] at R0
  -- the captured variables
  have hxg := R1.tm g
  rw [hg] at hxg
  unfold AR at hxg
  obtain ⟨xs, hxv, hxs⟩ := hxg
  unfold ARs at hxs
  obtain ⟨x1, xs1, rfl, _, hx1, hxs⟩ := hxs
  unfold ARs at hxs
  obtain ⟨x2, xs2, rfl, _, hx2, hxs⟩ := hxs
  unfold ARs at hxs
  obtain ⟨x3, xs3, rfl, _, hx3, hxs⟩ := hxs
  unfold ARs at hxs
  subst hxs
  unfold AR at hx1 hx2 hx3
  obtain ⟨b1, hb1, rfl⟩ := hx1
  obtain ⟨b2, hb2, rfl⟩ := hx2
  obtain ⟨b3, hb3, rfl⟩ := hx3
  have m11 : M0 2000011 = some b1 := by rw [hM0]; exact (if_pos (by rw [hnm 0 (Nat.zero_le _)]; simp)).trans hb1
  have m12 : M0 2000012 = some b2 := by rw [hM0]; exact (if_pos (by rw [hnm 0 (Nat.zero_le _)]; simp)).trans hb2
  have m13 : M0 2000013 = some b3 := by rw [hM0]; exact (if_pos (by rw [hnm 0 (Nat.zero_le _)]; simp)).trans hb3
  have hev : a.eval (.tmp g) = .func (.func gf) #[] #[.pointer (some ⟨b1, 0, none⟩), .pointer (some ⟨b2, 0, none⟩), .pointer (some ⟨b3, 0, none⟩)] := hxv
  -- what holds between two rounds
  have fix0 : ∀ {k j : Nat} {Z : Nat → Prop} {M : Nat → Option Nat} {W : World}, Rep c0 Z M (S0 T (ItO sep (rest j) ++ U k)) a W → ∀ n, 2000000 ≤ n → M n = M0 n := fun R n hn => (R.fix n hn).trans (by rw [e1])
  have frl : ∀ {s : St} {Z : Nat → Prop} {M : Nat → Option Nat} {W : World}, Rep c0 Z M s a W → W.heap[lr]? = W1.heap[lr]? := fun R => by
    rw [R.fr.block lr (by rw [e0]; exact hlr2), e0]
    rintro ⟨n, hn⟩
    rw [e1] at hn
    have := hM0w n lr hn
    omega
  have zl : ∀ {s : St} {Z : Nat → Prop} {M : Nat → Option Nat} {W : World}, Rep c0 Z M s a W → ∀ b, Z b → b < w.heap.size ∨ W1.heap.size ≤ b := fun R b hb => by
    rcases R.zold b hb with h | h
    · rw [e3] at h; exact .inl (R1.zlt b h)
    · rw [e0] at h; exact .inr h
  have ml : ∀ {k j : Nat} {Z : Nat → Prop} {M : Nat → Option Nat} {W : World}, k ≤ N → Rep c0 Z M (S0 T (ItO sep (rest j) ++ U k)) a W → ∀ n b, M n = some b → b < w.heap.size ∨ W1.heap.size ≤ b := fun {k j Z M W} hk R n b h => by
    have hl : (S0 T (ItO sep (rest j) ++ U k)).live n := by
      cases ho : (S0 T (ItO sep (rest j) ++ U k)).hp n with
      | none => rw [R.dead n ho] at h; cases h
      | some o => exact ⟨o, ho, hlvA k hk _ _ (obF_mem ho)⟩
    rcases R.own n b hl h with h | h
    · rw [e0] at h; exact .inr h
    · rw [e1] at h; exact .inl (hM0w n b h)
  have cells : ∀ {k j : Nat} {Z : Nat → Prop} {M : Nat → Option Nat} {W : World}, Rep c0 Z M (S0 T (ItO sep (rest j) ++ U k)) a W → W.cell? ⟨b1, 0, none⟩ = some (.string sep) ∧ W.cell? ⟨b2, 0, none⟩ = some (.string (rest j)) ∧ W.cell? ⟨b3, 0, none⟩ = some (.int .i64 0) ∧ W.frozen? ⟨b2, 0, none⟩ = false := fun {k j Z M W} R => by
    obtain ⟨t1, h1, _⟩ := R.cel (n := 2000011) ((fix0 R _ (by decide)).trans m11) (by show obF _ _ = _; rw [obF_it]; rfl)
    obtain ⟨t2, h2, _⟩ := R.cel (n := 2000012) ((fix0 R _ (by decide)).trans m12) (by show obF _ _ = _; rw [obF_it]; rfl)
    obtain ⟨t3, h3, _⟩ := R.cel (n := 2000013) ((fix0 R _ (by decide)).trans m13) (by show obF _ _ = _; rw [obF_it]; rfl)
    refine ⟨?_, ?_, ?_, frozen_of_row _ _ _ _ _ h2⟩
    · rw [cell_of_row _ _ _ _ _ _ h1]; rfl
    · rw [cell_of_row _ _ _ _ _ _ h2]; rfl
    · rw [cell_of_row _ _ _ _ _ _ h3]; rfl
  have hcalls := hseq lr b1 b2 b3 (n - 1) (fun k W => k ≤ N ∧ ∃ Z M, Rep c0 Z M (S0 T (ItO sep (rest k) ++ U k)) a W) (fun k W => k < N ∧ ∃ Z M, Rep c0 Z M (S0 T (ItO sep (rest k) ++ U (k + 1))) a W)
    (fun k W hk ⟨_, Z, M, R⟩ => by obtain ⟨h1, h2, h3, _⟩ := cells R; exact ⟨h1, h2, h3⟩) (fun k W hk ⟨_, Z, M, R⟩ => cells R)
    (fun k W hk ⟨_, Z, M, R⟩ => ⟨by omega, Z, M, (R.setV (n := 2000012) (b := b2) (v := .string (rest k)) (u := .string (rest (k + 1))) ((fix0 R _ (by decide)).trans m12) (by show obF _ _ = _; rw [obF_it]; rfl) rfl).congr (fun t => rfl) (fun m => by
      show (if m = 2000012 then some _ else obF _ m) = obF _ m
      rw [obF_it, obF_it]
      by_cases h1 : m = 2000012
      · subst h1; rfl
      · rw [if_neg h1]
        by_cases h2 : m = 2000011
        · rw [if_pos h2, if_pos h2]
        · rw [if_neg h2, if_neg h2, if_neg h1, if_neg h1])⟩)
    (fun k W hk ⟨_, Z, M, R⟩ => ?_) W1 ⟨Nat.zero_le _, Z1, M0, R0⟩
  · refine ⟨lr, mark, W1, { target := .fn (.func gf) #[.pointer (some ⟨b1, 0, none⟩), .pointer (some ⟨b2, 0, none⟩), .pointer (some ⟨b3, 0, none⟩)], args := #[.func (.yield lr) #[] #[]] }, W1, gf,
      #[.func (.yield lr) #[] #[], .pointer (some ⟨b1, 0, none⟩), .pointer (some ⟨b2, 0, none⟩), .pointer (some ⟨b3, 0, none⟩)], W1, hent, ?_, fun _ _ => trivial, ?_, fun h => (by cases h), ?_⟩
    · simp only [resolve, hev]
      simp [go_sem]
    · simp [invoke, go_sem, eg]
    refine CallsIn.mono (F := wideR r) (n := n - 1) hcalls fun e W3 hh => ?_
    obtain ⟨⟨v, rfl⟩, hlt, Z, M, R⟩ := hh
    have hN1 : N - 1 + 1 = N := by omega
    rw [hN1] at R
    have hLr := (frl R).trans hL1
    refine ⟨none, _, run_endLoop (P := P) hLr (by simp), ?_⟩
    have h4 : ∀ b, b ≠ lr → ∀ o, (W3.putObj lr o).heap[b]? = W3.heap[b]? := fun b hb o => World.putObj_heap_other hb
    have s1w : w.heap.size ≤ W1.heap.size := hgr.size
    have s3 : W1.heap.size ≤ W3.heap.size := by have := R.fr.size; rwa [e0] at this
    have zne : ∀ b, Z b → b ≠ lr := fun b hb => by have := zl R b hb; omega
    have mne : ∀ n b, M n = some b → b ≠ lr := fun n b h => by have := ml (Nat.le_refl _) R n b h; omega
    obtain ⟨X, hX⟩ : ∃ X : Obj, X = .loop { state := .exhausted, pending := none, fn, tmps := a.tmps, params := #[p], assign, body, defers := df } := ⟨_, rfl⟩
    have hob : ∀ p, p ∈ ItO sep (rest (N - 1)) ++ U N → OR Z M (W3.putObj lr X) p.1 p.2 := fun p hp => by
      have hn : p.1 ∈ (ItO sep (rest (N - 1)) ++ U N).map (·.1) := List.mem_map.2 ⟨p, hp, rfl⟩
      have hnodup : ((ItO sep (rest (N - 1)) ++ U N).map (·.1)).Nodup := by
        have := hnd N (Nat.le_refl _) (rest (N - 1))
        rw [show ((ItO sep (rest (N - 1)) ++ U N).map fun p => rn l p.1) = ((ItO sep (rest (N - 1)) ++ U N).map (·.1)).map (rn l) by rw [List.map_map]; rfl] at this
        exact nodup_of_map _ this
      have hhit : obF (ItO sep (rest (N - 1)) ++ U N) p.1 = some p.2 := by
        have := hpM_hit (l := []) (o := none) (obs := ItO sep (rest (N - 1)) ++ U N) (by simpa only [rn_id] using hnodup) p hp
        rwa [rn_id, Ob.rho_id] at this
      have h1 := R.ob p.1 p.2 hhit
      have k : Stays Z Z M M W3 (W3.putObj lr X) none := ⟨⟨fun _ h => h, fun b o hb => cell_of_heap (h4 b (zne b hb) X) o⟩, fun m _ b h => h, fun m _ h => h, fun m b k _ h q => room_of_heap (h4 b (mne m b h) X) q⟩
      have h2 := OR.stay k rfl h1 (fun b hl h => (h1.blk hl h).1) (fun b _ h => h4 b (mne _ b h) X)
      rwa [Ob.kill_none] at h2
    have RM := R1.mutG (l := l) (obs := ItO sep (rest 0) ++ U 0) (obs' := ItO sep (rest (N - 1)) ++ U N) (Z' := Z) (M' := M) (w' := W3.putObj lr X)
      (by rw [hnm' 0 (Nat.zero_le _)]; exact hokA 0 (Nat.zero_le _) _) (by rw [hnm' N (Nat.le_refl _)]; exact hokA N (Nat.le_refl _) _) (hnd 0 (Nat.zero_le _) _) (hnd N (Nat.le_refl _) _)
      (fun p hp => by rw [hnm' N (Nat.le_refl _), ← hnm' 0 (Nat.zero_le _) (rest 0)]; exact List.mem_map.2 ⟨p, hp, rfl⟩)
      (fun p hp => by
        have hn : p.1 ∈ nms := by rw [← hnm' N (Nat.le_refl _) (rest (N - 1))]; exact List.mem_map.2 ⟨p, hp, rfl⟩
        rw [hnm' 0 (Nat.zero_le _)]
        by_cases h : 2000000 ≤ p.1
        · exact .inl ⟨h, hn⟩
        · refine .inr ⟨by omega, ?_⟩
          rw [hnms] at hn
          simp only [List.mem_cons] at hn
          rcases hn with h1 | h1 | h1 | h1
          · omega
          · omega
          · omega
          · rcases hB2 _ h1 with h2 | h2
            · omega
            · exact h2)
      hhp (fun b h => R.zsub b (by rw [e3]; exact h)) (fun b h => by
        rcases R.zold b h with h | h
        · rw [e3] at h; exact .inl h
        · rw [e0] at h; exact .inr (by omega)) (fun b h => by rw [World.putObj_size]; exact R.zlt b h)
      ⟨by have := R.fr.os; rw [e0] at this; exact this.trans hgr.os, by have := R.fr.tape; rw [e0] at this; exact this.trans hgr.tape, by have := R.fr.output; rw [e0] at this; exact this.trans hgr.output, by rw [World.putObj_size]; omega, fun b hb hn => by
        rw [h4 b (by omega), R.fr.block b (by rw [e0]; omega) (fun ⟨m, hm⟩ => hn ⟨m, by rw [e1, hM0] at hm; exact hm⟩), e0, hgr.block b hb (by simp)]⟩
      (fun b k h => by
        have hb : b ≠ lr := by
          obtain ⟨arr, t, ⟨f, q1, _⟩, _⟩ := h
          have := (Array.getElem?_eq_some_iff.1 q1).1
          omega
        have h1 : room W1 b k := by
          obtain ⟨arr, t, q1, q2⟩ := h
          exact ⟨arr, t, q1.tr (hgr.block b q1.lt (by simp)), q2⟩
        exact room_of_heap (h4 b hb X) (R.rm b k (by rw [e0]; exact h1))) hob
      (fun x y b hx hy h1 h2 => by
        have lv : ∀ z, z ∈ (ItO sep (rest (N - 1)) ++ U N).map (·.1) → (S0 T (ItO sep (rest (N - 1)) ++ U N)).live z := fun z hz => by
          cases ho : obF (ItO sep (rest (N - 1)) ++ U N) z with
          | none => exact absurd hz (obF_none ho)
          | some o => exact ⟨o, ho, hlvA N (Nat.le_refl _) _ _ (obF_mem ho)⟩
        exact R.inj x y b (lv x hx) (lv y hy) h1 h2)
      (fun x hx b h => by
        have lv : (S0 T (ItO sep (rest (N - 1)) ++ U N)).live x := by
          cases ho : obF (ItO sep (rest (N - 1)) ++ U N) x with
          | none => exact absurd hx (obF_none ho)
          | some o => exact ⟨o, ho, hlvA N (Nat.le_refl _) _ _ (obF_mem ho)⟩
        rcases R.own x b lv h with h | h
        · rw [e0] at h; exact .inl (by omega)
        · rw [e1, hM0] at h; exact .inr h)
      (fun m hm => by rw [fix0 R m hm, hM0])
    rw [← hX]
    refine ⟨rfl, Z, _, RM, ?_⟩
    cases r with
    | some l0 =>
      have hmk : mark = [] := hmk
      subst hmk
      rfl
    | none =>
      obtain ⟨D, hmk, hD1, hD2, hD3, hD4⟩ : ∃ D, mark = [{ target := .collected D, args := #[] }] ∧ W1.heap[D]? = some (.deferred (some [])) ∧ w.heap.size ≤ D ∧ D < W1.heap.size ∧ D ≠ lr := hmk
      subst hmk
      refine ⟨D, ?_, ?_, hD2, fun h => by have := zl R D h; omega⟩
      · show ({ a with defers := [_] ++ a.defers } : Act) = _
        rw [R1.defers]; rfl
      · rw [h4 D hD4 X, R.fr.block D (by rw [e0]; exact hD3) (fun ⟨m, hm⟩ => by rw [e1] at hm; have := hM0w m D hm; omega), e0]
        exact hD1
  · -- one round
    have hLr := (frl R).trans hL1
    have hlt : lr < W.heap.size := (Array.getElem?_eq_some_iff.1 hLr).1
    have hy := run_yield (P := P) (args := #[.string (piece k)]) hLr rfl
    refine ⟨fn, _, assign, body, hy, roundIn_of_wpIn hfn (hassign lr _ _ _ _ ?_)⟩
    refine ⟨_, run_beginRound hLr rfl, ?_⟩
    obtain ⟨B, hBd⟩ : ∃ B : Obj, B = .loop { state := .busy, pending := none, fn, tmps := a.tmps, params := #[p], assign, body, defers := df } := ⟨_, rfl⟩
    rw [← hBd]
    have h4 : ∀ b, b ≠ lr → ∀ o, (W.putObj lr o).heap[b]? = W.heap[b]? := fun b hb o => World.putObj_heap_other hb
    have zne : ∀ b, Z b → b ≠ lr := fun b hb => by have := zl R b hb; omega
    have mne : ∀ n b, M n = some b → b ≠ lr := fun n b h => by have := ml (show k ≤ N by omega) R n b h; omega
    have hm1 : ∀ n, n < 1000000 → M n = none := fun n hn => R.dead n (by
      cases ho : obF (ItO sep (rest k) ++ U k) n with
      | none => exact ho
      | some o =>
        have := hgeA n (by rw [← hnm' k (by omega) (rest k)]; exact List.mem_map.2 ⟨(n, o), obF_mem ho, rfl⟩)
        omega)
    have hgM : ∀ n b, M n = some b → ¬ Gl b := fun n b h => R.gl (n := n) (by
      cases ho : (S0 T (ItO sep (rest k) ++ U k)).hp n with
      | none => rw [R.dead n ho] at h; cases h
      | some o => exact ⟨o, ho, hlvA k (by omega) _ _ (obF_mem ho)⟩) h
    have htB : Tw (W.putObj lr B) := R.tw.keep fun b hb => h4 b (fun e => by
      subst e
      have h1 := (R1.grow hgr).tw.lt hb
      have h2 := R1.tw.lt hb
      omega) B
    have RB := R.move (w' := W.putObj lr B) (fun b hb => h4 b (zne b hb) B) (fun m b h => h4 b (mne m b h) B) (by rw [World.putObj_size]; exact Nat.le_refl _) hm1 hgM htB
    have ec : (⟨Z, W.putObj lr B, c0.nt, M, htB, hgM⟩ : Cx).nt = c.nt := e2
    obtain ⟨a1, ha1⟩ : ∃ a1 : Act, a1 = (a.put (some p) (.string (piece k))).put (some q) (.string (piece k)) := ⟨_, rfl⟩
    have RP : Rep ⟨Z, W.putObj lr B, c0.nt, M, htB, hgM⟩ Z M (((S0 T (ItO sep (rest k) ++ U k)).put (some p) (.d (.c (.string (piece k))))).put (some q) (.d (.c (.string (piece k))))) a1 (W.putObj lr B) := by
      rw [ha1]
      exact (RB.put (fun t h => by cases h; show p < c0.nt; rw [e2]; exact hpt) (AR.c_of rfl)).put (fun t h => by cases h; show q < c0.nt; rw [e2]; exact hqt) (AR.c_of rfl)
    have hact : ({ tmps := (#[p].zip #[Value.string (piece k)]).foldl (fun t (x : Nat × Value) => t.setIfInBounds x.1 x.2) a.tmps, defers := [] } : Act).put (some q) (({ tmps := (#[p].zip #[Value.string (piece k)]).foldl (fun t (x : Nat × Value) => t.setIfInBounds x.1 x.2) a.tmps, defers := [] } : Act).tmps.getD p undef) = a1 := by
      rw [ha1]
      have hz : (#[p].zip #[Value.string (piece k)]).foldl (fun t (x : Nat × Value) => t.setIfInBounds x.1 x.2) a.tmps = a.tmps.setIfInBounds p (.string (piece k)) := by simp
      have hp2 : (a.tmps.setIfInBounds p (Value.string (piece k))).getD p undef = .string (piece k) := by
        have : p < a.tmps.size := by rw [R1.size]; exact hpt
        simp [Array.getD, this]
      simp only [hz, hp2, Act.put, R1.defers]
    have hst : body.wpIn (wideR (some lr)) (n - 1 - 1) P _ a1 (W.putObj lr B) := hround k hk lr _ _ Z M a1 _ ec RP ⟨_, by rw [World.putObj_heap_same hlt, hBd]⟩ mne rfl rfl
    have key : body.wpIn (wideR (some lr)) (n - 1 - 1) P (roundPost P lr fun e W' => e = .returned (.bool true) ∧ k < N ∧ ∃ Z M, Rep c0 Z M (S0 T (ItO sep (rest k) ++ U (k + 1))) a W') a1 (W.putObj lr B) := by
      refine wpIn_mono hst fun e a2 W3 h => ?_
      obtain ⟨rfl, Z2, M2, s2, R3, hE⟩ := h
      have hl3 : W3.heap[lr]? = some B := by
        rw [R3.fr.block lr (by show lr < (W.putObj lr B).heap.size; rw [World.putObj_size]; exact hlt) (fun ⟨m, hm⟩ => mne m lr hm rfl)]
        exact World.putObj_heap_same hlt
      have hl3' := hl3
      rw [hBd] at hl3'
      have hlt3 : lr < W3.heap.size := (Array.getElem?_eq_some_iff.1 hl3).1
      refine ⟨_, _, run_endRound (P := P) none hl3', rfl, hk, Z2, ?_⟩
      obtain ⟨Y, hY⟩ : ∃ Y : Obj, Y = .loop { state := .ready, pending := none, fn, tmps := a.tmps, params := #[p], assign, body, defers := df } := ⟨_, rfl⟩
      have hb0 : W.heap.size ≤ (W.putObj lr B).heap.size := by rw [World.putObj_size]; exact Nat.le_refl _
      have hzl2 : ∀ b, Z2 b → b ≠ lr := fun b hb => by
        rcases R3.zold b hb with h | h
        · exact zne b h
        · have h : (W.putObj lr B).heap.size ≤ b := h
          omega
      have hnk : (ItO sep (rest k) ++ U (k + 1)).map (·.1) = (ItO sep (rest k) ++ U k).map (·.1) := by rw [hnm' _ (by omega), hnm' _ (by omega)]
      have hml2 : ∀ m b, M2 m = some b → b ≠ lr := fun m b h => by
        cases ho : s2.hp m with
        | none => rw [R3.dead m ho] at h; cases h
        | some o =>
          cases hl : o.live with
          | true =>
            rcases R3.own m b ⟨o, ho, hl⟩ h with h | h
            · have h : (W.putObj lr B).heap.size ≤ b := h
              omega
            · exact mne m b h
          | false => exact hzl2 b ((R3.ob m o ho).ice hl h)
      have := Rep.back (M0 := M0) (l := lr) (W4 := W3.putObj lr Y) (obs' := ItO sep (rest k) ++ U (k + 1)) R (fun q hq => ⟨(hT q hq).2.1, by rw [hnm _ (by omega)]; simp [(hT q hq).2.2]⟩) (hlvA k (by omega) _) (hlvA (k + 1) (by omega) _) (by rw [hnm' _ (by omega)]; exact hokA (k + 1) (by omega) _)
        (fun m hm => by rw [hnk]; exact hm) (fun m hm => by rw [← hnk]; exact hm) (by rw [e0]; exact hlr2) hzl2 hml2 (by rw [e0, World.putObj_heap_same hlt3, hY]; exact hL1)
        (fun x t f => by rw [World.putObj_heap_same hlt3, hY]; simp) (fun b hb => h4 b hb B) hb0 (fun x t f => by rw [hLr]; simp) R3 hE (fun b hb => World.putObj_heap_other hb) (by rw [World.putObj_size]) ⟨rfl, rfl, rfl⟩ ⟨rfl, rfl, rfl⟩
      rw [hY] at this
      exact this
    have goal := key
    rw [← hact] at goal
    exact goal
end
end Go.Eng

/- Calls of functions that write their caller's objects, on a walk's values, agree with Go's ('m_sound'). No condition. -/
import Derived.Test.YthbdglibakjfbaaDoorEngL
set_option linter.unusedSectionVars false
namespace Go.Eng
open Go.RowKit
variable [Inhabited Lo]
section
variable {P : Program} {c : Cx} {Z Z' : Nat → Prop} {M M' : Nat → Option Nat} {s : St} {a : Act} {w w' : World}

theorem nd_inj {ρ : Nat → Nat} : ∀ {obs : List (Nat × Ob)}, (obs.map fun p => ρ p.1).Nodup → ∀ {n m : Nat}, n ∈ obs.map (·.1) → m ∈ obs.map (·.1) → ρ n = ρ m → n = m
  | [], _, _, _, hn, _, _ => by simp at hn
  | p :: obs, h, n, m, hn, hm, e => by
    simp only [List.map_cons, List.nodup_cons] at h
    have out : ∀ k, k ∈ obs.map (·.1) → ρ k ≠ ρ p.1 := fun k hk e => by
      obtain ⟨q, hq, rfl⟩ := List.mem_map.1 hk
      exact h.1 (List.mem_map.2 ⟨q, hq, e⟩)
    simp only [List.map_cons, List.mem_cons] at hn hm
    rcases hn with rfl | hn <;> rcases hm with rfl | hm
    · rfl
    · exact absurd e.symm (out m hm)
    · exact absurd e (out n hn)
    · exact nd_inj h.2 hn hm e
theorem hpAll_get {l : List (Nat × Nat)} {s : St} : ∀ {obs : List (Nat × Ob)}, hpAll l s obs → ∀ p, p ∈ obs → s.hp (rn l p.1) = some (p.2.rho (rn l))
  | [], _, p, hp => by simp at hp
  | q :: obs, h, p, hp => by
    rcases List.mem_cons.1 hp with rfl | hp
    · exact h.1
    · exact hpAll_get h.2 p hp
theorem hpM_hit {l : List (Nat × Nat)} {o : Option Ob} : ∀ {obs : List (Nat × Ob)}, (obs.map fun p => rn l p.1).Nodup → ∀ p, p ∈ obs → hpM l obs (rn l p.1) o = some (p.2.rho (rn l))
  | [], _, p, hp => by simp at hp
  | q :: obs, h, p, hp => by
    simp only [List.map_cons, List.nodup_cons] at h
    unfold hpM
    rcases List.mem_cons.1 hp with rfl | hp
    · rw [if_pos rfl]
    · rw [if_neg fun e => h.1 (List.mem_map.2 ⟨p, hp, e⟩)]
      exact hpM_hit h.2 p hp
theorem hpM_miss {l : List (Nat × Nat)} {o : Option Ob} {m : Nat} : ∀ {obs : List (Nat × Ob)}, (∀ p, p ∈ obs → m ≠ rn l p.1) → hpM l obs m o = o
  | [], _ => rfl
  | q :: obs, h => by
    unfold hpM
    rw [if_neg (h q (by simp))]
    exact hpM_miss fun p hp => h p (List.mem_cons_of_mem _ hp)
theorem mem_mvs {l : List (Nat × Nat)} : ∀ {obs : List (Nat × Ob)} {m : Nat}, m ∈ mvs l obs ↔ ∃ p, p ∈ obs ∧ p.1 < 2000000 ∧ m = rn l p.1
  | [], m => by simp [mvs]
  | q :: obs, m => by
    unfold mvs
    split
    · rename_i h
      simp only [List.mem_cons, mem_mvs]
      constructor
      · rintro (rfl | ⟨p, h1, h2⟩)
        · exact ⟨q, .inl rfl, h, rfl⟩
        · exact ⟨p, .inr h1, h2⟩
      · rintro ⟨p, rfl | h1, h2, h3⟩
        · exact .inl h3
        · exact .inr ⟨p, h1, h2, h3⟩
    · rename_i h
      rw [mem_mvs]
      constructor
      · rintro ⟨p, h1, h2⟩; exact ⟨p, List.mem_cons_of_mem _ h1, h2⟩
      · rintro ⟨p, h1, h2, h3⟩
        rcases List.mem_cons.1 h1 with rfl | h1
        · exact absurd h2 h
        · exact ⟨p, h1, h2, h3⟩

/-- where the objects are behind the call -/
def M2 (M1 M' : Nat → Option Nat) (l : List (Nat × Nat)) : List (Nat × Ob) → Nat → Option Nat
  | [], m => M1 m
  | p :: ps, m => if m = rn l p.1 then M' p.1 else M2 M1 M' l ps m
theorem M2_hit {M1 M' : Nat → Option Nat} {l : List (Nat × Nat)} : ∀ {obs : List (Nat × Ob)}, (obs.map fun p => rn l p.1).Nodup → ∀ n, n ∈ obs.map (·.1) → M2 M1 M' l obs (rn l n) = M' n
  | [], _, n, hn => by simp at hn
  | q :: obs, h, n, hn => by
    have hi := nd_inj (ρ := rn l) h (n := n) (m := q.1) hn (by simp)
    simp only [List.map_cons, List.nodup_cons] at h
    unfold M2
    by_cases e : rn l n = rn l q.1
    · rw [if_pos e, hi e]
    · rw [if_neg e]
      refine M2_hit h.2 n ?_
      simp only [List.map_cons, List.mem_cons] at hn
      rcases hn with rfl | hn
      · exact absurd rfl e
      · exact hn
theorem M2_miss {M1 M' : Nat → Option Nat} {l : List (Nat × Nat)} {m : Nat} : ∀ {obs : List (Nat × Ob)}, (∀ p, p ∈ obs → m ≠ rn l p.1) → M2 M1 M' l obs m = M1 m
  | [], _ => rfl
  | q :: obs, h => by
    unfold M2
    rw [if_neg (h q (by simp))]
    exact M2_miss fun p hp => h p (List.mem_cons_of_mem _ hp)

theorem callM_sound (R : Rep c Z M s a w) {prot : List Nat} {o : Oper} {f : FuncId} {avs : List AV} {vs : List Value} (hav0 : ARt Z M w avs vs) (he : ∀ w, (execOp a.eval o).run P w = (callFunc f vs.toArray).run P w) (hd : ∀ t, o.dst = some t → t < c.nt) {K : St → Prop}
    (h : callM P prot f avs o.dst s K) {Kc : Act → World → Prop} {Q : Exit → Act → World → Prop}
    (hk : ∀ Z' M' s' a' w' ns, Rep c Z' M' s' a' w' → (∀ b, Z b → Z' b) → Eff ns Z M M' w w' → (∀ n, n ∈ ns → n ∉ prot) → K s' → Kc a' w') : o.wp P a w Kc Q := by
  obtain ⟨tl, s1, avs1, hG, htl, l, args, obs, r, obs', ⟨hb, hf⟩, hB, rfl, hhp, hK⟩ := h
  obtain ⟨Z1, M1, hz1, R1, hav, hM1, hM1'⟩ := hG c Z M a w vs R hav0
  unfold mutB at hB
  simp only [Bool.and_eq_true, decide_eq_true_eq, List.all_eq_true, Bool.or_eq_true, Bool.not_eq_true', List.contains_iff_mem] at hB
  obtain ⟨⟨⟨⟨⟨⟨⟨⟨b1, b2⟩, b3⟩, b4⟩, b5⟩, b6⟩, b7⟩, b8⟩, b9⟩ := hB
  have hM0 : ∀ n, n ∈ obs.map (·.1) → (if n ∈ obs.map (·.1) then M1 (rn l n) else none) = M1 (rn l n) := fun n hn => if_pos hn
  have hlv : ∀ n, n ∈ obs.map (·.1) → s1.live (rn l n) := fun n hn => by
    obtain ⟨p, hp, rfl⟩ := List.mem_map.1 hn
    exact ⟨_, hpAll_get hhp p hp, by rw [Ob.rho_live]; exact Ob.okN_live (b3 p hp)⟩
  refine wp_called he hb ((hf Z1 w (fun n => if n ∈ obs.map (·.1) then M1 (rn l n) else none) vs R1.zlt R1.tw (fun n b h => by
    by_cases hn : n ∈ obs.map (·.1)
    · rw [if_pos hn] at h; exact R1.gl (hlv n hn) h
    · rw [if_neg hn] at h; cases h) ((ARt.rho hM0 args vs b1).2 hav) (fun p hp => ?_) (fun n m b hn hm h1 h2 => ?_) (fun n hn => if_neg hn)).mono fun e w' h => ?_)
  · have := R1.ob _ _ (hpAll_get hhp p hp)
    exact (OR.rho hM0 (List.mem_map.2 ⟨p, hp, rfl⟩) (b3 p hp)).2 this
  · rw [if_pos hn] at h1
    rw [if_pos hm] at h2
    exact nd_inj (ρ := rn l) b5 hn hm (R1.inj _ _ b (hlv n hn) (hlv m hm) h1 h2)
  obtain ⟨v, Z', M', rfl, g1, g2, g3, g4, gR, g5, g6, g7, g8, g9⟩ := h
  have hmem : ∀ n, n ∈ obs.map (·.1) → n ∈ obs'.map (·.1) := fun n hn => by
    obtain ⟨p, hp, rfl⟩ := List.mem_map.1 hn
    exact b7 p hp
  -- blocks that may have been written
  have hwr : ∀ b, (∃ n, (if n ∈ obs.map (·.1) then M1 (rn l n) else none) = some b) → ∃ n, n ∈ obs.map (·.1) ∧ M1 (rn l n) = some b := fun b ⟨n, hn⟩ => by
    by_cases h : n ∈ obs.map (·.1)
    · rw [if_pos h] at hn; exact ⟨n, h, hn⟩
    · rw [if_neg h] at hn; cases hn
  have hzw : ∀ b, Z1 b → ¬ ∃ n, (if n ∈ obs.map (·.1) then M1 (rn l n) else none) = some b := fun b hb hn => by
    obtain ⟨n, hn, hM⟩ := hwr b hn
    obtain ⟨x, hx, hl⟩ := hlv n hn
    exact ((R1.ob _ x hx).blk hl hM).1 hb
  have hkeep : Keeps Z1 Z' w w' := ⟨g1, fun b o hb => cell_of_heap (g4.block b (R1.zlt b hb) (hzw b hb)) o⟩
  -- the new names
  have hh : ∀ n, n ∈ obs'.map (·.1) → M' n = M2 M1 M' l obs' (rn l n) := fun n hn => (M2_hit b6 n hn).symm
  have hfix : ∀ m, m ∉ mvs l obs' → M2 M1 M' l obs' m = M1 m := fun m hm => by
    by_cases h : ∃ p, p ∈ obs' ∧ m = rn l p.1
    · obtain ⟨p, hp, rfl⟩ := h
      have hn : p.1 ∈ obs'.map (·.1) := List.mem_map.2 ⟨p, hp, rfl⟩
      rw [M2_hit b6 _ hn]
      have h2 : 2000000 ≤ p.1 := Decidable.byContradiction fun h => hm (mem_mvs.2 ⟨p, hp, by omega, rfl⟩)
      rw [g9 p.1 h2]
      rcases b8 p hp with ⟨_, h3⟩ | ⟨h3, _⟩
      · exact if_pos h3
      · omega
    · exact M2_miss fun p hp e => h ⟨p, hp, e⟩
  have hoth : ∀ m, (∀ p, p ∈ obs' → m ≠ rn l p.1) → ∀ b, M1 m = some b → w'.heap[b]? = w.heap[b]? ∧ b < w.heap.size := fun m hm b hb => by
    refine ⟨g4.block b (R1.mlt hb) fun hn => ?_, R1.mlt hb⟩
    obtain ⟨n, hn, hM⟩ := hwr b hn
    obtain ⟨p, hp, rfl⟩ := List.mem_map.1 (hmem n hn)
    cases ho : s1.hp m with
    | none => rw [R1.dead m ho] at hb; cases hb
    | some x =>
      cases hl : x.live with
      | true => exact hm p hp (R1.inj _ _ b ⟨x, ho, hl⟩ (hlv _ hn) hb hM)
      | false =>
        obtain ⟨y, hy, hyl⟩ := hlv _ hn
        exact ((R1.ob _ y hy).blk hyl hM).1 ((R1.ob m x ho).ice hl hb)
  have hst : StaysS Z1 Z' M1 (M2 M1 M' l obs') w w' (mvs l obs') := ⟨hkeep, fun m hm b h => (hfix m hm).trans h, fun m hm h => (hfix m hm).trans h, fun m b k _ _ h => gR b k h⟩
  have hlt' : ∀ n, n ∈ obs'.map (·.1) → ∀ b, M' n = some b → b < w'.heap.size ∧ ¬ Z' b := fun n hn b h => by
    obtain ⟨p, hp, rfl⟩ := List.mem_map.1 hn
    have := (g6 p hp).blk (Ob.okN_live (b4 p hp)) h
    exact ⟨this.2, this.1⟩
  have hZn : ∀ b, b < w.heap.size → ¬ Z1 b → ¬ Z' b := fun b hb hz hz' => (g2 b hz').elim hz fun h => by omega
  -- a live object of the new state: one that was listed, or one that was there
  have hsplit : ∀ m, (s1.mut l obs').live m → (∃ n, n ∈ obs'.map (·.1) ∧ m = rn l n) ∨ ((∀ p, p ∈ obs' → m ≠ rn l p.1) ∧ s1.live m) := fun m ⟨x, hx, hl⟩ => by
    by_cases h : ∃ p, p ∈ obs' ∧ m = rn l p.1
    · obtain ⟨p, hp, rfl⟩ := h
      exact .inl ⟨p.1, List.mem_map.2 ⟨p, hp, rfl⟩, rfl⟩
    · have hm : ∀ p, p ∈ obs' → m ≠ rn l p.1 := fun p hp e => h ⟨p, hp, e⟩
      simp only [St.mut] at hx
      rw [hpM_miss hm] at hx
      cases hs : s1.hp m with
      | none => simp [hs] at hx
      | some y =>
        simp only [hs, Option.map_some, Option.some.injEq] at hx
        subst hx
        exact .inr ⟨hm, y, hs, by rwa [Ob.killS_live] at hl⟩
  have hown : ∀ n, n ∈ obs'.map (·.1) → ∀ b, M' n = some b → w.heap.size ≤ b ∨ (n ∈ obs.map (·.1) ∧ M1 (rn l n) = some b) := fun n hn b h => by
    rcases g8 n hn b h with h | h
    · exact .inl h
    · by_cases hq : n ∈ obs.map (·.1)
      · rw [if_pos hq] at h; exact .inr ⟨hq, h⟩
      · rw [if_neg hq] at h; cases h
  have hR : Rep c Z' (M2 M1 M' l obs') (s1.mut l obs') a w' := by
    refine ⟨R1.size, R1.defers, fun t => AR.killS hst _ _ (R1.tm t), fun m x hx => ?_, fun m hm => ?_, fun m m' b h1 h2 h3 h4 => ?_, fun m b hl hm => ?_, g3, fun b h => (g2 b h).elim (R1.zold b) fun h => .inr (Nat.le_trans R1.fr.size h), fun b h => g1 b (R1.zsub b h), ?_, fun m hm => ?_, R1.ntl, R1.m0, fun b k h => gR b k (R1.rm b k h)⟩
    · by_cases h : ∃ p, p ∈ obs' ∧ m = rn l p.1
      · obtain ⟨p, hp, rfl⟩ := h
        simp only [St.mut] at hx
        rw [hpM_hit b6 p hp] at hx
        cases hx
        exact (OR.rho hh (List.mem_map.2 ⟨p, hp, rfl⟩) (b4 p hp)).1 (g6 p hp)
      · have hm : ∀ p, p ∈ obs' → m ≠ rn l p.1 := fun p hp e => h ⟨p, hp, e⟩
        simp only [St.mut] at hx
        rw [hpM_miss hm] at hx
        cases hs : s1.hp m with
        | none => simp [hs] at hx
        | some y =>
          simp only [hs, Option.map_some, Option.some.injEq] at hx
          subst hx
          exact OR.stayS hst (M2_miss hm) (R1.ob m y hs) (fun b hl h => hZn b (R1.mlt h) ((R1.ob m y hs).blk hl h).1) fun b _ h => (hoth m hm b h).1
    · by_cases h : ∃ p, p ∈ obs' ∧ m = rn l p.1
      · obtain ⟨p, hp, rfl⟩ := h
        simp only [St.mut] at hm
        rw [hpM_hit b6 p hp] at hm
        cases hm
      · have hm' : ∀ p, p ∈ obs' → m ≠ rn l p.1 := fun p hp e => h ⟨p, hp, e⟩
        simp only [St.mut] at hm
        rw [hpM_miss hm'] at hm
        rw [M2_miss hm']
        simp only [Option.map_eq_none_iff] at hm
        exact R1.dead m hm
    · rcases hsplit m h1 with ⟨n, hn, rfl⟩ | ⟨hm, hl⟩ <;> rcases hsplit m' h2 with ⟨n', hn', rfl⟩ | ⟨hm', hl'⟩
      · rw [M2_hit b6 n hn] at h3
        rw [M2_hit b6 n' hn'] at h4
        rw [g7 n n' b hn hn' h3 h4]
      · rw [M2_hit b6 n hn] at h3
        rw [M2_miss hm'] at h4
        rcases hown n hn b h3 with h | ⟨h5, h6⟩
        · have := R1.mlt h4; omega
        · exact R1.inj _ _ b (hlv n h5) hl' h6 h4
      · rw [M2_hit b6 n' hn'] at h4
        rw [M2_miss hm] at h3
        rcases hown n' hn' b h4 with h | ⟨h5, h6⟩
        · have := R1.mlt h3; omega
        · exact R1.inj _ _ b hl (hlv n' h5) h3 h6
      · rw [M2_miss hm] at h3
        rw [M2_miss hm'] at h4
        exact R1.inj _ _ b hl hl' h3 h4
    · rcases hsplit m hl with ⟨n, hn, rfl⟩ | ⟨hm', hl'⟩
      · rw [M2_hit b6 n hn] at hm
        rcases hown n hn b hm with h | ⟨h5, h6⟩
        · exact .inl (Nat.le_trans R1.fr.size h)
        · exact R1.own _ b (hlv n h5) h6
      · rw [M2_miss hm'] at hm
        exact R1.own m b hl' hm
    · refine ⟨g4.os.trans R1.fr.os, g4.tape.trans R1.fr.tape, g4.output.trans R1.fr.output, Nat.le_trans R1.fr.size g4.size, fun b hb hn => ?_⟩
      have hb' : b < w.heap.size := Nat.lt_of_lt_of_le hb R1.fr.size
      rw [g4.block b hb' ?_, R1.fr.block b hb hn]
      intro h
      obtain ⟨n, hnn, hM⟩ := hwr b h
      rcases R1.own _ b (hlv n hnn) hM with h | h
      · omega
      · exact hn ⟨_, h⟩
    · rw [hfix m fun h => ?_]
      · exact R1.fix m hm
      · obtain ⟨p, hp, h1, rfl⟩ := mem_mvs.1 h
        rcases b8 p hp with ⟨h2, _⟩ | ⟨_, h2⟩
        · omega
        · omega
  refine ⟨v, rfl, hk _ _ _ _ _ (tl ++ obs'.map fun p => rn l p.1) (hR.put hd ((AR.rho hh r v b2).1 g5)) (fun b h => g1 b (hz1 b h)) ⟨fun n hn => ?_, ?_⟩ (fun n hn => ?_) hK⟩
  · simp only [List.mem_append, not_or] at hn
    rw [M2_miss fun p hp e => hn.2 (List.mem_map.2 ⟨p, hp, e.symm⟩), hM1 n hn.1]
  · refine ⟨g4.os, g4.tape, g4.output, g4.size, fun b hb hn => g4.block b hb fun h => hn ?_⟩
    obtain ⟨n, hnn, hM⟩ := hwr b h
    obtain ⟨x, hx, hxl⟩ := hlv n hnn
    refine ⟨fun hz => ((R1.ob _ x hx).blk hxl hM).1 (hz1 b hz), ?_⟩
    by_cases ht : rn l n ∈ tl
    · obtain ⟨m, h1, h2⟩ := hM1' _ ht b hM
      exact ⟨m, List.mem_append.2 (.inl h1), h2⟩
    · rw [hM1 _ ht] at hM
      obtain ⟨p, hp, rfl⟩ := List.mem_map.1 (hmem n hnn)
      exact ⟨_, List.mem_append.2 (.inr (List.mem_map.2 ⟨p, hp, rfl⟩)), hM⟩
  · rcases List.mem_append.1 hn with hn | hn
    · exact htl n hn
    · obtain ⟨p, hp, rfl⟩ := List.mem_map.1 hn
      have := b9 p hp
      simpa using this
theorem vals_ARt (R : Rep c Z M s a w) : ∀ (os : List Operand), ARt Z M w (vals s os) (os.map a.eval)
  | [] => by simp only [vals, List.map_nil]; unfold ARt; rfl
  | o :: os => by
    simp only [vals, List.map_cons]
    unfold ARt
    exact ⟨_, _, rfl, R.ev o, vals_ARt R os⟩
theorem ARt_app : ∀ {vs : List AV} {xs : List Value} {us : List AV} {ys : List Value}, ARt Z M w vs xs → ARs Z M w us ys → ARt Z M w (vs ++ us) (xs ++ ys)
  | v :: vs, xs, us, ys, h, k => by
    unfold ARt at h
    obtain ⟨x, xs', rfl, h1, h2⟩ := h
    simp only [List.cons_append]
    unfold ARt
    exact ⟨x, xs' ++ ys, rfl, h1, ARt_app h2 k⟩
  | [], xs, [], ys, h, k => by unfold ARt at h; unfold ARs at k; subst h; subst k; simp only [List.append_nil]; unfold ARt; rfl
  | [], xs, u :: us, ys, h, k => by
    have h' := h
    unfold ARt at h
    subst h
    unfold ARs at k
    obtain ⟨y, ys', rfl, _, h2, h3⟩ := k
    simp only [List.nil_append]
    unfold ARt
    refine ⟨y, ys', rfl, h2, ?_⟩
    simpa using ARt_app h' h3
theorem m_sound (R : Rep c Z M s a w) {o : Oper} {i : Ins} {cl : Call} (hop : o.op = .call cl) (hi : (∃ f, cl.callee = .value (.func f) ∧ i = .callm f cl.args.toList) ∨ ∃ t, cl.callee = .value (.tmp t) ∧ i = .callvm (.tmp t) cl.args.toList) (hd : ∀ t, o.dst = some t → t < c.nt) {prot : List Nat} {K : St → Prop} (h : mW P prot i o.dst s K) {Kc : Act → World → Prop} {Q : Exit → Act → World → Prop}
    (hk : ∀ Z' M' s' a' w' ns, Rep c Z' M' s' a' w' → (∀ b, Z b → Z' b) → Eff ns Z M M' w w' → (∀ n, n ∈ ns → n ∉ prot) → K s' → Kc a' w') : o.wp P a w Kc Q := by
  have hav := vals_ARt R cl.args.toList
  rcases hi with ⟨f, hcal, rfl⟩ | ⟨t, hcal, rfl⟩
  · refine callM_sound (P := P) R hav (fun w => ?_) hd h hk
    have e : (cl.args.toList.map a.eval).toArray = cl.args.map a.eval := by
      apply Array.toList_inj.1
      simp
    rw [e]
    simp only [execOp, hop, resolve, hcal]
    simp [Act.eval, Deferred.ofValue, invoke]
  · have hx := R.ev (.tmp t)
    have key : ∀ (f : FuncId) (us : List AV) (xs : List Value), a.eval (.tmp t) = .func (.func f) #[] xs.toArray → ARs Z M w us xs → callM P prot f (vals s cl.args.toList ++ us) o.dst s K → o.wp P a w Kc Q := fun f us xs hx hxs h => by
      refine callM_sound (P := P) R (ARt_app hav hxs) (fun w => ?_) hd h hk
      have e : (cl.args.toList.map a.eval ++ xs).toArray = cl.args.map a.eval ++ xs.toArray := by
        apply Array.toList_inj.1
        simp
      rw [e]
      simp only [execOp, hop, resolve, hcal, hx]
      simp [Deferred.ofValue, invoke]
    unfold mW at h
    dsimp only at h
    split at h
    · rename_i f caps hv
      rw [hv] at hx
      unfold AR at hx
      obtain ⟨xs, hx, hxs⟩ := hx
      exact key f caps xs hx hxs h
    · rename_i f caps hv
      rw [hv] at hx
      unfold AR DR at hx
      obtain ⟨xs, hx, hxs⟩ := hx
      exact key f (caps.map .d) xs hx (ARs.of_D hxs) h
    · exact h.elim
end
end Go.Eng

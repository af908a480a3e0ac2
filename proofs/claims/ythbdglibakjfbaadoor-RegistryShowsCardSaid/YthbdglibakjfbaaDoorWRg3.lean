/- What a caller's state is when its objects have been written: the part of a call's proof that other statements want too. No condition but what each says. -/
import Derived.Test.YthbdglibakjfbaaDoorWRg2
set_option linter.unusedSimpArgs false
set_option linter.unusedVariables false
set_option linter.unusedSectionVars false
namespace Go.Eng
open Go.RowKit
variable [Inhabited Lo]
section
variable {P : Program} {c : Cx} {Z Z1 Z' : Nat → Prop} {M M1 M' : Nat → Option Nat} {s s1 : St} {a : Act} {w w' : World}
theorem Rep.mutG (R1 : Rep c Z1 M1 s1 a w) {l : List (Nat × Nat)} {obs obs' : List (Nat × Ob)} (b3 : ∀ p, p ∈ obs → p.2.okN (obs.map (·.1)) = true) (b4 : ∀ p, p ∈ obs' → p.2.okN (obs'.map (·.1)) = true) (b5 : (obs.map fun p => rn l p.1).Nodup) (b6 : (obs'.map fun p => rn l p.1).Nodup) (b7 : ∀ p, p ∈ obs → p.1 ∈ obs'.map (·.1))
    (b8 : ∀ p, p ∈ obs' → 2000000 ≤ p.1 ∧ p.1 ∈ obs.map (·.1) ∨ p.1 < 2000000 ∧ rn l p.1 < 2000000) (hhp : hpAll l s1 obs)
    (g1 : ∀ b, Z1 b → Z' b) (g2 : ∀ b, Z' b → Z1 b ∨ w.heap.size ≤ b) (g3 : ∀ b, Z' b → b < w'.heap.size) (g4 : Frm (fun b => ∃ n, (if n ∈ obs.map (·.1) then M1 (rn l n) else none) = some b) w w') (gR : ∀ b k, room w b k → room w' b k) (g6 : ∀ p, p ∈ obs' → OR Z' M' w' p.1 p.2)
    (g7 : ∀ n m b, n ∈ obs'.map (·.1) → m ∈ obs'.map (·.1) → M' n = some b → M' m = some b → n = m) (g8 : ∀ n, n ∈ obs'.map (·.1) → ∀ b, M' n = some b → w.heap.size ≤ b ∨ (if n ∈ obs.map (·.1) then M1 (rn l n) else none) = some b) (g9 : ∀ n, 2000000 ≤ n → M' n = if n ∈ obs.map (·.1) then M1 (rn l n) else none) :
    Rep c Z' (M2 M1 M' l obs') (s1.mut l obs') a w' := by
  have hM0 : ∀ n, n ∈ obs.map (·.1) → (if n ∈ obs.map (·.1) then M1 (rn l n) else none) = M1 (rn l n) := fun n hn => if_pos hn
  have hlv : ∀ n, n ∈ obs.map (·.1) → s1.live (rn l n) := fun n hn => by
    obtain ⟨p, hp, rfl⟩ := List.mem_map.1 hn
    exact ⟨_, hpAll_get hhp p hp, by rw [Ob.rho_live]; exact Ob.okN_live (b3 p hp)⟩
  have hmem : ∀ n, n ∈ obs.map (·.1) → n ∈ obs'.map (·.1) := fun n hn => by
    obtain ⟨p, hp, rfl⟩ := List.mem_map.1 hn
    exact b7 p hp
  -- blocks that may have been written
  have hwr : ∀ b, (∃ n, (if n ∈ obs.map (·.1) then M1 (rn l n) else none) = some b) → ∃ n, n ∈ obs.map (·.1) ∧ M1 (rn l n) = some b := fun b ⟨n, hn⟩ => by
    by_cases h : n ∈ obs.map (·.1)
    · rw [if_pos h] at hn; exact ⟨n, h, hn⟩
    · rw [if_neg h] at hn; cases hn
  have hzw : ∀ b, Z1 b → ¬ ∃ n, (if n ∈ obs.map (·.1) then M1 (rn l n) else none) = some b := fun b hb hn => by
    obtain ⟨n, hn, hM⟩ := hwr b hn
    obtain ⟨x, hx, hl⟩ := hlv n hn
    exact ((R1.ob _ x hx).blk hl hM).1 hb
  have hkeep : Keeps Z1 Z' w w' := ⟨g1, fun b o hb => cell_of_heap (g4.block b (R1.zlt b hb) (hzw b hb)) o⟩
  -- the new names
  have hh : ∀ n, n ∈ obs'.map (·.1) → M' n = M2 M1 M' l obs' (rn l n) := fun n hn => (M2_hit b6 n hn).symm
  have hfix : ∀ m, m ∉ mvs l obs' → M2 M1 M' l obs' m = M1 m := fun m hm => by
    by_cases h : ∃ p, p ∈ obs' ∧ m = rn l p.1
    · obtain ⟨p, hp, rfl⟩ := h
      have hn : p.1 ∈ obs'.map (·.1) := List.mem_map.2 ⟨p, hp, rfl⟩
      rw [M2_hit b6 _ hn]
      have h2 : 2000000 ≤ p.1 := Decidable.byContradiction fun h => hm (mem_mvs.2 ⟨p, hp, by omega, rfl⟩)
      rw [g9 p.1 h2]
      rcases b8 p hp with ⟨_, h3⟩ | ⟨h3, _⟩
      · exact if_pos h3
      · omega
    · exact M2_miss fun p hp e => h ⟨p, hp, e⟩
  have hoth : ∀ m, (∀ p, p ∈ obs' → m ≠ rn l p.1) → ∀ b, M1 m = some b → w'.heap[b]? = w.heap[b]? ∧ b < w.heap.size := fun m hm b hb => by
    refine ⟨g4.block b (R1.mlt hb) fun hn => ?_, R1.mlt hb⟩
    obtain ⟨n, hn, hM⟩ := hwr b hn
    obtain ⟨p, hp, rfl⟩ := List.mem_map.1 (hmem n hn)
    cases ho : s1.hp m with
    | none => rw [R1.dead m ho] at hb; cases hb
    | some x =>
      cases hl : x.live with
      | true => exact hm p hp (R1.inj _ _ b ⟨x, ho, hl⟩ (hlv _ hn) hb hM)
      | false =>
        obtain ⟨y, hy, hyl⟩ := hlv _ hn
        exact ((R1.ob _ y hy).blk hyl hM).1 ((R1.ob m x ho).ice hl hb)
  have hst : StaysS Z1 Z' M1 (M2 M1 M' l obs') w w' (mvs l obs') := ⟨hkeep, fun m hm b h => (hfix m hm).trans h, fun m hm h => (hfix m hm).trans h, fun m b k _ _ h => gR b k h⟩
  have hlt' : ∀ n, n ∈ obs'.map (·.1) → ∀ b, M' n = some b → b < w'.heap.size ∧ ¬ Z' b := fun n hn b h => by
    obtain ⟨p, hp, rfl⟩ := List.mem_map.1 hn
    have := (g6 p hp).blk (Ob.okN_live (b4 p hp)) h
    exact ⟨this.2, this.1⟩
  have hZn : ∀ b, b < w.heap.size → ¬ Z1 b → ¬ Z' b := fun b hb hz hz' => (g2 b hz').elim hz fun h => by omega
  -- a live object of the new state: one that was listed, or one that was there
  have hsplit : ∀ m, (s1.mut l obs').live m → (∃ n, n ∈ obs'.map (·.1) ∧ m = rn l n) ∨ ((∀ p, p ∈ obs' → m ≠ rn l p.1) ∧ s1.live m) := fun m ⟨x, hx, hl⟩ => by
    by_cases h : ∃ p, p ∈ obs' ∧ m = rn l p.1
    · obtain ⟨p, hp, rfl⟩ := h
      exact .inl ⟨p.1, List.mem_map.2 ⟨p, hp, rfl⟩, rfl⟩
    · have hm : ∀ p, p ∈ obs' → m ≠ rn l p.1 := fun p hp e => h ⟨p, hp, e⟩
      simp only [St.mut] at hx
      rw [hpM_miss hm] at hx
      cases hs : s1.hp m with
      | none => simp [hs] at hx
      | some y =>
        simp only [hs, Option.map_some, Option.some.injEq] at hx
        subst hx
        exact .inr ⟨hm, y, hs, by rwa [Ob.killS_live] at hl⟩
  have hown : ∀ n, n ∈ obs'.map (·.1) → ∀ b, M' n = some b → w.heap.size ≤ b ∨ (n ∈ obs.map (·.1) ∧ M1 (rn l n) = some b) := fun n hn b h => by
    rcases g8 n hn b h with h | h
    · exact .inl h
    · by_cases hq : n ∈ obs.map (·.1)
      · rw [if_pos hq] at h; exact .inr ⟨hq, h⟩
      · rw [if_neg hq] at h; cases h
  have hR : Rep c Z' (M2 M1 M' l obs') (s1.mut l obs') a w' := by
    refine ⟨R1.size, R1.defers, fun t => AR.killS hst _ _ (R1.tm t), fun m x hx => ?_, fun m hm => ?_, fun m m' b h1 h2 h3 h4 => ?_, fun m b hl hm => ?_, g3, fun b h => (g2 b h).elim (R1.zold b) fun h => .inr (Nat.le_trans R1.fr.size h), fun b h => g1 b (R1.zsub b h), ?_, fun m hm => ?_, R1.ntl, R1.m0, fun b k h => gR b k (R1.rm b k h)⟩
    · by_cases h : ∃ p, p ∈ obs' ∧ m = rn l p.1
      · obtain ⟨p, hp, rfl⟩ := h
        simp only [St.mut] at hx
        rw [hpM_hit b6 p hp] at hx
        cases hx
        exact (OR.rho hh (List.mem_map.2 ⟨p, hp, rfl⟩) (b4 p hp)).1 (g6 p hp)
      · have hm : ∀ p, p ∈ obs' → m ≠ rn l p.1 := fun p hp e => h ⟨p, hp, e⟩
        simp only [St.mut] at hx
        rw [hpM_miss hm] at hx
        cases hs : s1.hp m with
        | none => simp [hs] at hx
        | some y =>
          simp only [hs, Option.map_some, Option.some.injEq] at hx
          subst hx
          exact OR.stayS hst (M2_miss hm) (R1.ob m y hs) (fun b hl h => hZn b (R1.mlt h) ((R1.ob m y hs).blk hl h).1) fun b _ h => (hoth m hm b h).1
    · by_cases h : ∃ p, p ∈ obs' ∧ m = rn l p.1
      · obtain ⟨p, hp, rfl⟩ := h
        simp only [St.mut] at hm
        rw [hpM_hit b6 p hp] at hm
        cases hm
      · have hm' : ∀ p, p ∈ obs' → m ≠ rn l p.1 := fun p hp e => h ⟨p, hp, e⟩
        simp only [St.mut] at hm
        rw [hpM_miss hm'] at hm
        rw [M2_miss hm']
        simp only [Option.map_eq_none_iff] at hm
        exact R1.dead m hm
    · rcases hsplit m h1 with ⟨n, hn, rfl⟩ | ⟨hm, hl⟩ <;> rcases hsplit m' h2 with ⟨n', hn', rfl⟩ | ⟨hm', hl'⟩
      · rw [M2_hit b6 n hn] at h3
        rw [M2_hit b6 n' hn'] at h4
        rw [g7 n n' b hn hn' h3 h4]
      · rw [M2_hit b6 n hn] at h3
        rw [M2_miss hm'] at h4
        rcases hown n hn b h3 with h | ⟨h5, h6⟩
        · have := R1.mlt h4; omega
        · exact R1.inj _ _ b (hlv n h5) hl' h6 h4
      · rw [M2_hit b6 n' hn'] at h4
        rw [M2_miss hm] at h3
        rcases hown n' hn' b h4 with h | ⟨h5, h6⟩
        · have := R1.mlt h3; omega
        · exact R1.inj _ _ b hl (hlv n' h5) h3 h6
      · rw [M2_miss hm] at h3
        rw [M2_miss hm'] at h4
        exact R1.inj _ _ b hl hl' h3 h4
    · rcases hsplit m hl with ⟨n, hn, rfl⟩ | ⟨hm', hl'⟩
      · rw [M2_hit b6 n hn] at hm
        rcases hown n hn b hm with h | ⟨h5, h6⟩
        · exact .inl (Nat.le_trans R1.fr.size h)
        · exact R1.own _ b (hlv n h5) h6
      · rw [M2_miss hm'] at hm
        exact R1.own m b hl' hm
    · refine ⟨g4.os.trans R1.fr.os, g4.tape.trans R1.fr.tape, g4.output.trans R1.fr.output, Nat.le_trans R1.fr.size g4.size, fun b hb hn => ?_⟩
      have hb' : b < w.heap.size := Nat.lt_of_lt_of_le hb R1.fr.size
      rw [g4.block b hb' ?_, R1.fr.block b hb hn]
      intro h
      obtain ⟨n, hnn, hM⟩ := hwr b h
      rcases R1.own _ b (hlv n hnn) hM with h | h
      · omega
      · exact hn ⟨_, h⟩
    · rw [hfix m fun h => ?_]
      · exact R1.fix m hm
      · obtain ⟨p, hp, h1, rfl⟩ := mem_mvs.1 h
        rcases b8 p hp with ⟨h2, _⟩ | ⟨_, h2⟩
        · omega
        · omega
  exact hR
end
end Go.Eng

/- A range over strings.SplitSeq's function, on a walk's states. No condition but what each says. -/
import Derived.Test.YthbdglibakjfbaaDoorWIn
set_option linter.unusedSimpArgs false
set_option linter.unusedVariables false
set_option linter.unusedSectionVars false
namespace Go.Eng
open Go.RowKit
variable [Inhabited Lo]
section
variable {P : Program} {c : Cx} {Z Z' : Nat → Prop} {M M' : Nat → Option Nat} {s : St} {a : Act} {w w' : World}
/-- a state in another world, in which what it speaks of lies as it lay; from there on -/
theorem Rep.move (R : Rep c Z M s a w) (hz : ∀ b, Z b → w'.heap[b]? = w.heap[b]?) (hM : ∀ n b, M n = some b → w'.heap[b]? = w.heap[b]?) (hs : w.heap.size ≤ w'.heap.size) (hm : ∀ n, n < 1000000 → M n = none) (hg : ∀ n b, M n = some b → ¬ Gl b) (ht : Tw w') :
    Rep ⟨Z, w', c.nt, M, ht, hg⟩ Z M s a w' := by
  have k : Stays Z Z M M w w' none := ⟨⟨fun _ h => h, fun b o hb => cell_of_heap (hz b hb) o⟩, fun m _ b h => h, fun m _ h => h, fun m b k _ h q => room_of_heap (hM m b h) q⟩
  refine ⟨R.size, R.defers, fun t => AR.keep k (R.tm t), fun m x hx => ?_, R.dead, R.inj, fun n b _ h => .inr h, fun b h => Nat.lt_of_lt_of_le (R.zlt b h) hs, fun b h => .inl h, fun b h => h, Frm.refl _ _, fun _ _ => rfl, R.ntl, hm, fun _ _ h => h⟩
  have := OR.stay k rfl (R.ob m x hx) (fun b hl h => ((R.ob m x hx).blk hl h).1) (fun b _ h => hM m b h)
  rwa [Ob.kill_none] at this
/-- objects by name -/
def obF (obs : List (Nat × Ob)) (n : Nat) : Option Ob := hpM [] obs n none
theorem obF_mem {obs : List (Nat × Ob)} {n : Nat} {o : Ob} (h : obF obs n = some o) : (n, o) ∈ obs := hpM_some h
theorem obF_none {obs : List (Nat × Ob)} {n : Nat} (h : obF obs n = none) : n ∉ obs.map (·.1) := fun hn => by
  obtain ⟨p, hp, rfl⟩ := List.mem_map.1 hn
  have hex : ∀ (l : List (Nat × Ob)), p ∈ l → hpM [] l p.1 none ≠ none := by
    intro l
    induction l with
    | nil => intro h; cases h
    | cons q l ih =>
      intro h
      unfold hpM
      rw [rn_id]
      split
      · simp
      · rename_i e
        rcases List.mem_cons.1 h with rfl | h
        · exact absurd rfl e
        · exact ih h
  exact hex obs hp h
/-- the slots that rounds read -/
def argT (T : List (Nat × Nat)) (t : Nat) : AV := match T.find? fun p => p.1 == t with
  | some p => .ptr p.2 0
  | none => .any
theorem argT_any {T : List (Nat × Nat)} {t : Nat} : argT T t = .any ∨ ∃ n, (t, n) ∈ T ∧ argT T t = .ptr n 0 := by
  unfold argT
  cases h : T.find? fun p => p.1 == t with
  | none => exact .inl rfl
  | some p =>
    have h1 := List.mem_of_find?_eq_some h
    have h2 := List.find?_some h
    simp only [beq_iff_eq] at h2
    subst h2
    exact .inr ⟨p.2, h1, rfl⟩
def S0 (T : List (Nat × Nat)) (obs : List (Nat × Ob)) : St := { tm := argT T, hp := obF obs }
/-- behind a round: the state between two rounds again -/
theorem Rep.back {c0 : Cx} {M0 : Nat → Option Nat} {T : List (Nat × Nat)} {obs obs' : List (Nat × Ob)} {a a2 : Act} {W W3 W4 Wb : World} {Z2 : Nat → Prop} {M2 : Nat → Option Nat} {s2 : St} {l : Nat} {ht : Tw Wb} {hg : ∀ n b, M n = some b → ¬ Gl b}
    (R0 : Rep c0 Z M (S0 T obs) a W) (hT : ∀ p, p ∈ T → 2000000 ≤ p.2 ∧ p.2 ∈ obs'.map (·.1)) (hlv : ∀ p, p ∈ obs → p.2.live = true) (hlv' : ∀ p, p ∈ obs' → p.2.live = true) (hok : ∀ p, p ∈ obs' → p.2.okN (obs'.map (·.1)) = true) (hnm : ∀ n, n ∈ obs.map (·.1) → n ∈ obs'.map (·.1)) (hge : ∀ n, n ∈ obs'.map (·.1) → n ∈ obs.map (·.1))
    (hl1 : l < c0.w0.heap.size) (hlz : ∀ b, Z2 b → b ≠ l) (hlM : ∀ n b, M2 n = some b → b ≠ l) (hl0 : c0.w0.heap[l]? = W4.heap[l]?) (hl4 : ∀ x t f, W4.heap[l]? ≠ some (.cells x t f)) (hlb : ∀ b, b ≠ l → Wb.heap[b]? = W.heap[b]?) (hbs : W.heap.size ≤ Wb.heap.size) (hlc : ∀ x t f, W.heap[l]? ≠ some (.cells x t f))
    (R3 : Rep ⟨Z, Wb, c0.nt, M, ht, hg⟩ Z2 M2 s2 a2 W3) (hE : hpEq s2 obs') (h4 : ∀ b, b ≠ l → W4.heap[b]? = W3.heap[b]?) (h4s : W4.heap.size = W3.heap.size) (hbo : Wb.os = W.os ∧ Wb.tape = W.tape ∧ Wb.output = W.output) (h4o : W4.os = W3.os ∧ W4.tape = W3.tape ∧ W4.output = W3.output) :
    ∃ M4 : Nat → Option Nat, Rep c0 Z2 M4 (S0 T obs') a W4 := by
  have hlive : ∀ n, n ∈ obs'.map (·.1) → s2.live n := fun n hn => by
    obtain ⟨p, hp, rfl⟩ := List.mem_map.1 hn
    exact ⟨_, hpEq_get hE p hp, hlv' p hp⟩
  have hM4 : ∀ n, n ∈ obs'.map (·.1) → M2 n = (fun n => if n ∈ obs'.map (·.1) then M2 n else none) (rn [] n) := fun n hn => by
    show M2 n = if n ∈ obs'.map (·.1) then M2 n else none
    rw [if_pos hn]
  have hM4b : ∀ n b, (if n ∈ obs'.map (·.1) then M2 n else none) = some b → b ≠ l := fun n b h => by
    by_cases c : n ∈ obs'.map (·.1)
    · rw [if_pos c] at h; exact hlM n b h
    · rw [if_neg c] at h; cases h
  have hlive0 : ∀ n b, M n = some b → (S0 T obs).live n := fun n b h => by
    cases ho : (S0 T obs).hp n with
    | none => rw [R0.dead n ho] at h; cases h
    | some o => exact ⟨o, ho, hlv _ (obF_mem ho)⟩
  have hmem0 : ∀ n b, M n = some b → n ∈ obs'.map (·.1) := fun n b h => by
    obtain ⟨o, ho, _⟩ := hlive0 n b h
    exact hnm n (List.mem_map.2 ⟨(n, o), obF_mem ho, rfl⟩)
  have kz : ∀ b, Z2 b → W4.heap[b]? = W3.heap[b]? := fun b hb => h4 b (hlz b hb)
  refine ⟨fun n => if n ∈ obs'.map (·.1) then M2 n else none, R0.size, R0.defers, fun t => ?_, fun n o ho => ?_, fun n hn => if_neg (obF_none hn), fun n m b hn hm h1 h2 => ?_, fun n b hn h => ?_, fun b h => by rw [h4s]; exact R3.zlt b h, fun b h => ?_, fun b h => R3.zsub b (R0.zsub b h), ?_, fun n hn => ?_, R0.ntl, R0.m0, fun b k h => ?_⟩
  · have h0 := R0.tm t
    show AR Z2 _ W4 (argT T t) _
    have h0 : AR Z M W (argT T t) (a.tmps.getD t undef) := h0
    rcases argT_any (T := T) (t := t) with e | ⟨n, hn, e⟩
    · rw [e]; exact AR.any_
    · rw [e] at h0 ⊢
      unfold AR at h0 ⊢
      obtain ⟨b, h1, h2⟩ := h0
      obtain ⟨q1, q2⟩ := hT _ hn
      refine ⟨b, ?_, h2⟩
      rw [if_pos q2, R3.fix n q1]
      exact h1
  · have hm := obF_mem ho
    have hn : n ∈ obs'.map (·.1) := List.mem_map.2 ⟨(n, o), hm, rfl⟩
    have h1 := R3.ob n o (hpEq_get hE (n, o) hm)
    have h2 := (OR.rho (M2 := fun n => if n ∈ obs'.map (·.1) then M2 n else none) (ρ := rn []) hM4 hn (hok (n, o) hm)).1 h1
    rw [rn_id, Ob.rho_id] at h2
    have k : Stays Z2 Z2 (fun n => if n ∈ obs'.map (·.1) then M2 n else none) (fun n => if n ∈ obs'.map (·.1) then M2 n else none) W3 W4 none := ⟨⟨fun _ h => h, fun b o hb => cell_of_heap (kz b hb) o⟩, fun m _ b h => h, fun m _ h => h, fun m b k _ h q => room_of_heap (h4 b (hM4b m b h)) q⟩
    have h3 := OR.stay k rfl h2 (fun b hl h => (h2.blk hl h).1) (fun b _ h => h4 b (hM4b _ b h))
    rwa [Ob.kill_none] at h3
  · obtain ⟨o, ho, _⟩ := hn
    obtain ⟨o', ho', _⟩ := hm
    have m1 : n ∈ obs'.map (·.1) := List.mem_map.2 ⟨(n, o), obF_mem ho, rfl⟩
    have m2 : m ∈ obs'.map (·.1) := List.mem_map.2 ⟨(m, o'), obF_mem ho', rfl⟩
    rw [if_pos m1] at h1
    rw [if_pos m2] at h2
    exact R3.inj n m b (hlive n m1) (hlive m m2) h1 h2
  · obtain ⟨o, ho, _⟩ := hn
    have m1 : n ∈ obs'.map (·.1) := List.mem_map.2 ⟨(n, o), obF_mem ho, rfl⟩
    rw [if_pos m1] at h
    rcases R3.own n b (hlive n m1) h with h | h
    · exact .inl (Nat.le_trans R0.fr.size (Nat.le_trans hbs h))
    · exact R0.own n b (hlive0 n b h) h
  · rcases R3.zold b h with h | h
    · exact R0.zold b h
    · exact .inr (Nat.le_trans R0.fr.size (Nat.le_trans hbs h))
  · have s3 : Wb.heap.size ≤ W3.heap.size := R3.fr.size
    refine ⟨h4o.1.trans (R3.fr.os.trans (hbo.1.trans R0.fr.os)), h4o.2.1.trans (R3.fr.tape.trans (hbo.2.1.trans R0.fr.tape)), h4o.2.2.trans (R3.fr.output.trans (hbo.2.2.trans R0.fr.output)), by rw [h4s]; exact Nat.le_trans R0.fr.size (Nat.le_trans hbs s3), fun b hb hn => ?_⟩
    by_cases e : b = l
    · subst e; exact hl0.symm
    · have h1 := R0.fr.size
      rw [h4 b e, R3.fr.block b (show b < Wb.heap.size by omega) ?_, hlb b e, R0.fr.block b hb hn]
      rintro ⟨n, hn2⟩
      rcases R0.own n b (hlive0 n b hn2) hn2 with h | h
      · omega
      · exact hn ⟨n, h⟩
  · by_cases hm : n ∈ obs'.map (·.1)
    · show (if n ∈ obs'.map (·.1) then M2 n else none) = c0.M0 n
      rw [if_pos hm, R3.fix n hn]
      exact R0.fix n hn
    · show (if n ∈ obs'.map (·.1) then M2 n else none) = c0.M0 n
      rw [if_neg hm, ← R0.fix n hn]
      cases h : M n with
      | none => rfl
      | some b => exact absurd (hmem0 n b h) hm
  · have h1 := R0.rm b k h
    have hbl : b ≠ l := by
      rintro rfl
      obtain ⟨arr, t, ⟨f, q1, _⟩, _⟩ := h1
      exact hlc _ _ _ q1
    have h2 : room W3 b k := R3.rm b k (room_of_heap (hlb b hbl) h1)
    exact room_of_heap (h4 b hbl) h2
end
end Go.Eng

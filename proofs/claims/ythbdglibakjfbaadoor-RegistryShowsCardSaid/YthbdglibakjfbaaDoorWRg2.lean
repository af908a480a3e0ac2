/- A range over strings.SplitSeq's function: the law. No condition but what each says. -/
import Derived.Test.YthbdglibakjfbaaDoorWRg
set_option linter.unusedSimpArgs false
set_option linter.unusedVariables false
set_option maxHeartbeats 1000000
set_option linter.unusedSectionVars false
namespace Go.Eng
open Go.RowKit
variable [Inhabited Lo]
/-- what the function that SplitSeq gives does, its captured variables being in the blocks b1 (the separator), b2 (what is left), b3 (0): N pieces; J k: ahead of piece k; J2 k: behind it -/
def SeqC (P : Program) (gf : Nat) (sep : ByteArray) (N : Nat) (rest piece : Nat → ByteArray) : Prop :=
  ∀ (l b1 b2 b3 n : Nat) (J J2 : Nat → World → Prop),
    (∀ k W, k < N → J k W → W.cell? ⟨b1, 0, none⟩ = some (.string sep) ∧ W.cell? ⟨b2, 0, none⟩ = some (.string (rest k)) ∧ W.cell? ⟨b3, 0, none⟩ = some (.int .i64 0)) →
    (∀ k W, k < N → J2 k W → W.cell? ⟨b1, 0, none⟩ = some (.string sep) ∧ W.cell? ⟨b2, 0, none⟩ = some (.string (rest k)) ∧ W.cell? ⟨b3, 0, none⟩ = some (.int .i64 0) ∧ W.frozen? ⟨b2, 0, none⟩ = false) →
    (∀ k W, k + 1 < N → J2 k W → J (k + 1) (W.setCell ⟨b2, 0, none⟩ (.string (rest (k + 1))))) →
    (∀ k W, k < N → J k W → YieldAt Fence.wide (n - 1) P l #[.string (piece k)] W fun e W' => e = .returned (.bool true) ∧ J2 k W') →
    ∀ W, J 0 W → CallsIn Fence.wide n P gf #[.func (.yield l) #[] #[], .pointer (some ⟨b1, 0, none⟩), .pointer (some ⟨b2, 0, none⟩), .pointer (some ⟨b3, 0, none⟩)] W fun e W' => (∃ v, e = .returned v) ∧ J2 (N - 1) W'
/-- the captured variables -/
def ItO (sep : ByteArray) (rest : ByteArray) : List (Nat × Ob) := [(2000011, .box [.d (.c (.string sep))]), (2000012, .box [.d (.c (.string rest))]), (2000013, .box [.d (.c (.int .i64 0))])]
section
variable {P : Program} {c : Cx} {Z Z1 Z' : Nat → Prop} {M M1 M' : Nat → Option Nat} {s s1 : St} {a : Act} {w w' : World}
theorem putObj_os (w : World) (r : Nat) (o : Obj) : (w.putObj r o).os = w.os ∧ (w.putObj r o).tape = w.tape ∧ (w.putObj r o).output = w.output := ⟨rfl, rfl, rfl⟩
/-- a captured variable's cell -/
theorem Rep.cel {c0 : Cx} (R : Rep c0 Z M s a w) {n b : Nat} {v : Value} (hb : M n = some b) (hn : s.hp n = some (.box [.d (.c v)])) : ∃ e, w.heap[b]? = some (.cells #[v] e (0, 0)) ∧ v.oneCell' = true := by
  obtain ⟨b', xs, e, h1, h2, h3, _⟩ := R.ob n _ hn
  rw [hb] at h1
  cases h1
  unfold ARs at h3
  obtain ⟨x, ys, hx, h4, h5, h6⟩ := h3
  unfold ARs at h6
  subst h6
  obtain ⟨rfl, h7⟩ := AR.c_ h5
  refine ⟨e, ?_, h7⟩
  rw [h2]
  congr 2
  exact Array.toList_inj.1 (by rw [hx])
/-- a captured variable is set -/
theorem Rep.setV {c0 : Cx} (R : Rep c0 Z M s a w) {n b : Nat} {v u : Value} (hb : M n = some b) (hn : s.hp n = some (.box [.d (.c v)])) (hu : u.oneCell' = true) : Rep c0 Z M (s.turn n (.box [.d (.c u)])) a (w.setCell ⟨b, 0, none⟩ u) := by
  obtain ⟨e, h1, _⟩ := R.cel hb hn
  have hz : ¬ Z b := ((R.ob n _ hn).blk rfl hb).1
  have h2 : (w.setCell ⟨b, 0, none⟩ u).heap[b]? = some (.cells #[u] e (0, 0)) := by
    unfold World.setCell
    show (w.heap.modify b _)[b]? = _
    obtain ⟨hlt, h3⟩ := Array.getElem?_eq_some_iff.1 h1
    rw [Array.getElem?_eq_getElem (by rw [Array.size_modify]; exact hlt), Array.getElem_modify_self, h3]
    simp
  refine R.turn n (grownBy_setCell' w b u) ⟨_, hn, rfl⟩ hb (fun k h => ?_) ⟨b, #[u], e, hb, h2, ?_, hz⟩
  · obtain ⟨arr, t, q1, q2⟩ := h
    obtain ⟨rfl, rfl⟩ := q1.uniq (.of h1)
    exact ⟨_, _, .of h2, by rw [← q2]; rfl⟩
  · unfold ARs
    exact ⟨u, [], rfl, hu, AR.c_of hu, by unfold ARs; rfl⟩
theorem Rep.congr {s' : St} (R : Rep c Z M s a w) (h1 : ∀ t, s.tm t = s'.tm t) (h2 : ∀ n, s.hp n = s'.hp n) : Rep c Z M s' a w := by
  have : s = s' := by
    cases s; cases s'
    simp only [St.mk.injEq]
    exact ⟨funext h1, funext h2⟩
  rw [← this]; exact R
theorem obF_it {sep rest : ByteArray} {U : List (Nat × Ob)} (n : Nat) : obF (ItO sep rest ++ U) n = if n = 2000011 then some (.box [.d (.c (.string sep))]) else if n = 2000012 then some (.box [.d (.c (.string rest))]) else if n = 2000013 then some (.box [.d (.c (.int .i64 0))]) else obF U n := by
  unfold obF ItO
  simp only [List.cons_append, List.nil_append, hpM, rn_id, Ob.rho_id]
theorem mapfst_it (sep rest : ByteArray) (U : List (Nat × Ob)) : (ItO sep rest ++ U).map (·.1) = 2000011 :: 2000012 :: 2000013 :: U.map (·.1) := rfl
/-- the caller's objects as a call sees them -/
theorem Rep.lend (R1 : Rep c Z1 M1 s1 a w) {l : List (Nat × Nat)} {T : List (Nat × Nat)} {obs : List (Nat × Ob)} (hge : ∀ n, n ∈ obs.map (·.1) → 1000000 ≤ n) (hlv : ∀ p, p ∈ obs → p.2.live = true) (hok : ∀ p, p ∈ obs → p.2.okN (obs.map (·.1)) = true) (hnd : (obs.map fun p => rn l p.1).Nodup) (hhp : hpAll l s1 obs)
    (hT : ∀ q, q ∈ T → s1.tm q.1 = .ptr (rn l q.2) 0 ∧ q.2 ∈ obs.map (·.1)) (hg : ∀ n b, (if n ∈ obs.map (·.1) then M1 (rn l n) else none) = some b → ¬ Gl b) :
    Rep ⟨Z1, w, c.nt, fun n => if n ∈ obs.map (·.1) then M1 (rn l n) else none, R1.tw, hg⟩ Z1 (fun n => if n ∈ obs.map (·.1) then M1 (rn l n) else none) (S0 T obs) a w := by
  have hM0 : ∀ n, n ∈ obs.map (·.1) → (if n ∈ obs.map (·.1) then M1 (rn l n) else none) = M1 (rn l n) := fun n hn => if_pos hn
  have hlive : ∀ n, n ∈ obs.map (·.1) → s1.live (rn l n) := fun n hn => by
    obtain ⟨p, hp, rfl⟩ := List.mem_map.1 hn
    exact ⟨_, hpAll_get hhp p hp, by rw [Ob.rho_live]; exact hlv p hp⟩
  refine ⟨R1.size, R1.defers, fun t => ?_, fun n o ho => ?_, fun n hn => if_neg (obF_none hn), fun n m b hn hm h1 h2 => ?_, fun n b _ h => .inr h, R1.zlt, fun b h => .inl h, fun b h => h, Frm.refl _ _, fun _ _ => rfl, R1.ntl, fun n hn => ?_, fun _ _ h => h⟩
  · show AR Z1 _ w (argT T t) _
    rcases argT_any (T := T) (t := t) with e | ⟨n, hn, e⟩
    · rw [e]; exact AR.any_
    · rw [e]
      obtain ⟨q1, q2⟩ := hT _ hn
      have h0 := R1.tm t
      rw [q1] at h0
      unfold AR at h0 ⊢
      obtain ⟨b, h1, h2⟩ := h0
      exact ⟨b, (hM0 n q2).trans h1, h2⟩
  · have hm := obF_mem ho
    have hn : n ∈ obs.map (·.1) := List.mem_map.2 ⟨(n, o), hm, rfl⟩
    exact (OR.rho (M2 := M1) (ρ := rn l) hM0 hn (hok (n, o) hm)).2 (R1.ob _ _ (hpAll_get hhp (n, o) hm))
  · obtain ⟨o, ho, _⟩ := hn
    obtain ⟨o', ho', _⟩ := hm
    have m1 : n ∈ obs.map (·.1) := List.mem_map.2 ⟨(n, o), obF_mem ho, rfl⟩
    have m2 : m ∈ obs.map (·.1) := List.mem_map.2 ⟨(m, o'), obF_mem ho', rfl⟩
    have h1 := (hM0 n m1).symm.trans h1
    have h2 := (hM0 m m2).symm.trans h2
    exact nd_inj (ρ := rn l) hnd m1 m2 (R1.inj _ _ b (hlive n m1) (hlive m m2) h1 h2)
  · refine if_neg fun h => ?_
    have := hge n h
    omega
end
end Go.Eng

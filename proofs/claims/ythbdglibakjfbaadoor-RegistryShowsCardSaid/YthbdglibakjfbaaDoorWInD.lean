/- A walk of straight code where deferred calls wait; what is asked at a piece's end. No condition but what each says. -/
import Derived.Test.YthbdglibakjfbaaDoorWRg4
set_option linter.unusedSimpArgs false
set_option linter.unusedVariables false
set_option linter.unusedSectionVars false
namespace Go.Eng
open Go.RowKit
variable [Inhabited Lo]
/-- the same with these deferred calls -/
def wd (a : Act) (d : List Deferred) : Act := { a with defers := d }
theorem wd_put (a : Act) (d : List Deferred) (t : Option Nat) (v : Value) : (wd a d).put t v = wd (a.put t v) d := by cases t <;> rfl
theorem wd_eval (a : Act) (d : List Deferred) : (wd a d).eval = a.eval := by
  funext o
  cases o <;> rfl
section
variable {P : Program} {c : Cx} {r : Option Nat} {n : Nat}
/-- operations that read, one behind the other, where deferred calls wait -/
theorem takes_inD {d : List Deferred} {own : List Nat} {ops : Array Oper} {Q : Exit → Act → World → Prop} {Z : Nat → Prop} {M : Nat → Option Nat} {w : World} : ∀ (l : List Nat) (aos : List AOper), l.mapM (cmpO P own c.nt ops) = some aos → (∀ ao ∈ aos, ao.ins.take = true) → ∀ {s : St} {a : Act}, Rep c Z M s a w → ∀ {K : St → Prop}, opsW P aos s K →
    (∀ s' a', Rep c Z M s' a' w → K s' → Q .normal (wd a' d) w) → wpOpsIn (wideR none) n P ops Q l (wd a d) w
  | [], aos, hm, _, s, a, R, K, h, hk => by
    simp at hm; subst hm
    exact hk _ _ R h
  | i :: l, aos, hm, ht, s, a, R, K, h, hk => by
    rw [List.mapM_cons] at hm
    cases hc : cmpO P own c.nt ops i with
    | none => simp [hc] at hm
    | some ao =>
      cases hr : l.mapM (cmpO P own c.nt ops) with
      | none => simp [hc, hr] at hm
      | some rest =>
        simp [hc, hr] at hm
        subst hm
        have h : opW P ao s fun s => opsW P rest s K := h
        obtain ⟨o, ho, hdst, h, hd⟩ := opW_sound R hc h
        simp only [wpOpsIn, ho]
        have htk := ht ao (.head _)
        rcases h with ⟨s1, R1, hw, hcm, h⟩ | ⟨s1, R1, hw, h⟩
        · rw [show (wd a d).tmps = a.tmps from rfl, if_pos hw]
          unfold runW at h
          rw [if_pos htk] at h
          rcases cmpX_spec hcm with ⟨_, hcm⟩ | ⟨hm, _⟩
          rotate_left
          · rw [Ins.take_M hm] at htk; cases htk
          obtain ⟨v, x, h1, h2, h3⟩ := tk_sound R1 hcm h
          have hx := h1 w (R1.agr (Below.refl _ _))
          refine ⟨fun f _ => trivial, ?_⟩
          show Oper.uponIn _ _ _ _ _ _ _ ((Oper.semAt none (wd a d).eval o).run P w)
          rw [Oper.semAt_none, wd_eval, hx]
          show wpOpsIn (wideR none) n P ops Q l ((wd a d).put o.dst x) w
          rw [wd_put]
          exact takes_inD l rest hr (fun ao h => ht ao (.tail _ h)) (R1.put hd h2) (by rw [hdst]; exact h3) hk
        · rw [show (wd a d).tmps = a.tmps from rfl, if_neg (by simp [hw])]
          refine ⟨fun f _ => trivial, ?_⟩
          rw [wd_put]
          exact takes_inD l rest hr (fun ao h => ht ao (.tail _ h)) (R1.forget hd) h hk
/-- a loop variable is set -/
theorem asg_in {o : Oper} {id p q : Nat} {l : Nat} (h1 : o.dst = some q) (h2 : o.op = .assign (.tmp p)) (h3 : o.guard = none) {a : Act} {w : World} {K : Act → World → Prop} (hK : K (a.put (some q) (a.tmps.getD p undef)) w) : (Code.region id #[o] false).wpIn (wideR (some l)) n P (Exit.then K (fun _ _ _ => False)) a w := by
  refine wpIn_region ?_
  show wpOpsIn _ _ _ _ _ [0] a w
  have hg : (#[o] : Array Oper)[0]? = some o := rfl
  simp only [wpOpsIn, hg]
  have hw : Region.wanted o (yielded #[o] a.tmps) = true := by
    unfold Region.wanted
    rw [h3]
  rw [if_pos hw]
  refine ⟨fun f _ => trivial, ?_⟩
  rw [Oper.semAt_eq _ _ _ (fun c e => by rw [h2] at e; cases e)]
  have hx : (execOp a.eval o).run P w = .ok (.value (a.tmps.getD p undef)) w := by
    unfold execOp
    rw [h2]
    rfl
  rw [hx]
  show K (a.put o.dst _) w
  rw [h1]
  exact hK
/-- what is asked at a piece's end, the state told in other words -/
def pcE (F : St → Prop) (s : St) : Prop := ∃ (tl : List Nat) (s1 : St), Gh tl s [] s1 [] ∧ F s1
def pcQ (F : St → Prop) : Exit → St → Prop := fun e s => match e with
  | .normal => pcE F s
  | _ => False
theorem pc_of {F : St → Prop} {s : St} (h : F s) : pcE F s := ⟨[], s, Gh.refl s [], h⟩
theorem pc_gh {F : St → Prop} {s s1 : St} {tl : List Nat} (hG : Gh tl s [] s1 []) (h : F s1) : pcE F s := ⟨tl, s1, hG, h⟩
theorem pcQ_n (F : St → Prop) (s : St) : pcQ F .normal s = pcE F s := rfl
theorem pcE_rep {F : St → Prop} {s : St} (h : pcE F s) {Z : Nat → Prop} {M : Nat → Option Nat} {a : Act} {w : World} (R : Rep c Z M s a w) : ∃ Z' M' s', (∀ b, Z b → Z' b) ∧ Rep c Z' M' s' a w ∧ F s' := by
  obtain ⟨tl, s1, hG, h1⟩ := h
  obtain ⟨Z', M', hz, R', _⟩ := hG c Z M a w [] R (by unfold ARt; rfl)
  exact ⟨Z', M', s1, hz, R', h1⟩
/-- a piece that is the whole -/
theorem piece_in {own prot : List Nat} {cd : Code} {ac : ACode} (hc : cmpC P own prot c.nt cd = some ac) (hp : plC cd = true) {Z : Nat → Prop} {M : Nat → Option Nat} {s : St} {a : Act} {w : World} (R : Rep c Z M s a w) {F : St → Prop} (h : awp P ac (pcQ F) s) :
    cd.wpIn (wideR r) n P (fun e a' w' => e = .normal ∧ ∃ Z' M' s', Rep c Z' M' s' a' w' ∧ F s') a w :=
  awp_in cd ac hc hp R h (fun e Z' M' s' a' w' R' h' => by
    cases e with
    | normal =>
      obtain ⟨Z2, M2, s2, _, R2, h2⟩ := pcE_rep h' R'
      exact ⟨rfl, Z2, M2, s2, R2, h2⟩
    | _ => exact h'.elim) fun a w h => by cases h.1
/-- a piece, and what comes behind it -/
theorem piece_seq {own prot : List Nat} {cd y : Code} {ac : ACode} (hc : cmpC P own prot c.nt cd = some ac) (hp : plC cd = true) {Z : Nat → Prop} {M : Nat → Option Nat} {s : St} {a : Act} {w : World} (R : Rep c Z M s a w) {F : St → Prop} (h : awp P ac (pcQ F) s) {Q : Exit → Act → World → Prop} (hO : ∀ a w, ¬ Q .outgrown a w)
    (k : ∀ Z' M' s' a' w', Rep c Z' M' s' a' w' → F s' → y.wpIn (wideR r) n P Q a' w') : (Code.seq cd y).wpIn (wideR r) n P Q a w := by
  refine wpIn_seq (awp_in cd ac hc hp R h (fun e Z' M' s' a' w' R' h' => ?_) fun a w h => hO a w h)
  cases e with
  | normal =>
    obtain ⟨Z2, M2, s2, _, R2, h2⟩ := pcE_rep h' R'
    exact k _ _ _ _ _ R2 h2
  | _ => exact h'.elim
/-- one piece of a chain of pieces: the rest is walked on -/
theorem piece_cons {own prot : List Nat} {x y : Code} {ax ay : ACode} (hc : cmpC P own prot c.nt x = some ax) (hp : plC x = true) {Z : Nat → Prop} {M : Nat → Option Nat} {s : St} {a : Act} {w : World} (R : Rep c Z M s a w) {F : St → Prop} (h : awp P (.seq ax ay) (pcQ F) s) {Q : Exit → Act → World → Prop} (hO : ∀ a w, ¬ Q .outgrown a w)
    (k : ∀ Z' M' s' a' w', Rep c Z' M' s' a' w' → awp P ay (pcQ F) s' → y.wpIn (wideR r) n P Q a' w') : (Code.seq x y).wpIn (wideR r) n P Q a w := by
  refine wpIn_seq (awp_in x ax hc hp R (Q := thenQ (awp P ay (pcQ F)) (pcQ F)) h (fun e Z' M' s' a' w' R' h' => ?_) fun a w h => hO a w h)
  cases e with
  | normal => exact k _ _ _ _ _ R' h'
  | _ => exact h'.elim
end
end Go.Eng

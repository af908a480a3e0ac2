/- A walk in a round of a range over a function: code without open orders and loops, there as elsewhere. No condition but what each says. -/
import Derived.Test.YthbdglibakjfbaaDoorEngV
import Derived.Test.YthbdglibakjfbaaDoorEngW
import Derived.RangeFuncNested
import Derived.RangeFuncBound
set_option linter.unusedSimpArgs false
set_option linter.unusedVariables false
set_option linter.unusedSectionVars false
namespace Go.Eng
open Go.RowKit
variable [Inhabited Lo]
/-- the fence without bounds, in a round or in none -/
def wideR (r : Option Nat) : Fence := { Fence.wide with round := r }
section
variable {P : Program} {c : Cx} {r : Option Nat} {n : Nat}
theorem upon_in {o : Oper} {a : Act} {next next' : Act → World → Prop} {Q : Exit → Act → World → Prop} (hQ : ∀ a w, ¬ Q .outgrown a w) (hn : ∀ a w, next a w → next' a w) : ∀ {x : Result Next}, o.upon P a next Q x → o.uponIn (wideR r) n P a next' Q x := by
  intro x h
  cases x with
  | ok v w =>
    cases v with
    | value v => exact hn _ _ h
    | skip => exact hn _ _ h
    | defer d => exact hn _ _ h
    | enter f args =>
      refine ⟨fun h => (by cases h), ?_⟩
      have h1 : CallsIn Fence.wide (n - 1) P f args w _ := callsIn_wide.2 h
      refine CallsIn.mono (F := wideR r) (n := n - 1) h1 fun e w' h => ?_
      cases e with
      | returned v => exact hn _ _ h
      | panicked ch => exact h
      | outgrown => exact h
    | row row args =>
      refine ⟨fun h => (by cases h), fun c cs _ => ?_⟩
      obtain ⟨v, w', h1, h2⟩ := h c cs
      exact ⟨v, w', hn _ _ h1, stepsIn_wide.2 h2⟩
    | round l f tmps assign body => exact h.elim
    | _ => exact h.elim
  | halt q w =>
    cases q <;> exact h
def nodef (o : Oper) : Bool := match o.op with
  | .defer _ => false
  | _ => true
theorem nodef_ne {o : Oper} (h : nodef o = true) : ∀ c, o.op ≠ .defer c := fun c e => by
  unfold nodef at h
  rw [e] at h
  cases h
theorem opsIn_of {ops : Array Oper} (hnd : ops.toList.all nodef = true) {Q : Exit → Act → World → Prop} (hQ : ∀ a w, ¬ Q .outgrown a w) : ∀ (l : List Nat) (a : Act) (w : World), wpOps P ops Q l a w → wpOpsIn (wideR r) n P ops Q l a w
  | [], a, w, h => h
  | i :: rest, a, w, h => by
    simp only [wpOps] at h
    simp only [wpOpsIn]
    cases ho : ops[i]? with
    | none =>
      simp only [ho] at h ⊢
      exact opsIn_of hnd hQ rest _ _ h
    | some o =>
      simp only [ho] at h ⊢
      have hm : o ∈ ops.toList := by
        obtain ⟨hi, rfl⟩ := Array.getElem?_eq_some_iff.1 ho
        exact Array.getElem_mem_toList hi
      have hd := nodef_ne (List.all_eq_true.1 hnd o hm)
      split at h
      · rename_i hw
        rw [if_pos hw]
        rcases h with h | ⟨_, a', w', h⟩
        · refine ⟨fun f _ => trivial, ?_⟩
          rw [Oper.semAt_eq _ _ _ hd]
          exact upon_in hQ (fun a w h => opsIn_of hnd hQ rest a w h) h
        · exact absurd h (hQ _ _)
      · rename_i hw
        rw [if_neg hw]
        exact ⟨fun f _ => trivial, opsIn_of hnd hQ rest _ _ h⟩
/-- code of this make -/
def plC : Code → Bool
  | .skip => true
  | .region _ ops d => !d && ops.toList.all nodef
  | .seq x y => plC x && plC y
  | .cond _ x y => plC x && plC y
  | .block _ x => plC x
  | .exit _ => true
  | .ret => true
  | _ => false
theorem awp_in {own prot : List Nat} : ∀ (cd : Code) (ac : ACode), cmpC P own prot c.nt cd = some ac → plC cd = true → ∀ {Z : Nat → Prop} {M : Nat → Option Nat} {s : St} {a : Act} {w : World}, Rep c Z M s a w →
    ∀ {Q : Exit → St → Prop} {Qc : Exit → Act → World → Prop}, awp P ac Q s → (∀ e Z' M' s' a' w', Rep c Z' M' s' a' w' → Q e s' → Qc e a' w') → (∀ a w, ¬ Qc .outgrown a w) → cd.wpIn (wideR r) n P Qc a w
  | .skip, ac, hc, _, Z, M, s, a, w, R, Q, Qc, h, hk, hO => by
    cases hc
    exact wpIn_skip (hk _ _ _ _ _ _ R h)
  | .region id ops draw, ac, hc, hp, Z, M, s, a, w, R, Q, Qc, h, hk, hO => by
    unfold plC at hp
    rw [Bool.and_eq_true, Bool.not_eq_true'] at hp
    obtain ⟨rfl, hp⟩ := hp
    unfold cmpC at hc
    rw [if_neg (by simp)] at hc
    cases hl : (List.range ops.size).mapM (cmpO P own c.nt ops) with
    | none => simp [hl] at hc
    | some l =>
      simp only [hl, Option.map_some, Option.some.injEq] at hc
      subst hc
      exact wpIn_region (opsIn_of hp hO _ _ _ (ops_sound _ l hl R h fun Z' M' s' a' w' R' h' => hk _ _ _ _ _ _ R' h'))
  | .seq x y, ac, hc, hp, Z, M, s, a, w, R, Q, Qc, h, hk, hO => by
    unfold plC at hp
    rw [Bool.and_eq_true] at hp
    unfold cmpC at hc
    cases hx : cmpC P own prot c.nt x with
    | none => simp [hx] at hc
    | some ax =>
      cases hy : cmpC P own prot c.nt y with
      | none => simp [hx, hy] at hc
      | some ay =>
        simp only [hx, hy, Option.some.injEq] at hc
        subst hc
        refine wpIn_seq (awp_in x ax hx hp.1 R h (fun e Z' M' s' a' w' R' h' => ?_) fun a w h => hO a w h)
        cases e with
        | normal => exact awp_in y ay hy hp.2 R' h' hk hO
        | _ => exact hk _ _ _ _ _ _ R' h'
  | .cond q x y, ac, hc, hp, Z, M, s, a, w, R, Q, Qc, h, hk, hO => by
    unfold plC at hp
    rw [Bool.and_eq_true] at hp
    unfold cmpC at hc
    cases hx : cmpC P own prot c.nt x with
    | none => simp [hx] at hc
    | some ax =>
      cases hy : cmpC P own prot c.nt y with
      | none => simp [hx, hy] at hc
      | some ay =>
        simp only [hx, hy, Option.some.injEq] at hc
        subst hc
        obtain ⟨t, ht, h1, h2⟩ := boolW_iff (R.ev q) h
        exact wpIn_cond_split ht (fun e => awp_in x ax hx hp.1 R (h1 e) hk hO) (fun e => awp_in y ay hy hp.2 R (h2 e) hk hO)
  | .block id x, ac, hc, hp, Z, M, s, a, w, R, Q, Qc, h, hk, hO => by
    unfold plC at hp
    unfold cmpC at hc
    cases hx : cmpC P own prot c.nt x with
    | none => simp [hx] at hc
    | some ax =>
      simp only [hx, Option.map_some, Option.some.injEq] at hc
      subst hc
      refine wpIn_block (awp_in x ax hx hp R h (fun e Z' M' s' a' w' R' h' => ?_) fun a w h => hO a w h)
      cases e with
      | exit id' =>
        simp only [inBlk] at h'
        simp only [Exit.inBlock]
        split
        · rename_i he; rw [if_pos he] at h'; exact hk _ _ _ _ _ _ R' h'
        · rename_i he; rw [if_neg he] at h'; exact hk _ _ _ _ _ _ R' h'
      | _ => exact hk _ _ _ _ _ _ R' h'
  | .exit id, ac, hc, _, Z, M, s, a, w, R, Q, Qc, h, hk, hO => by
    cases hc
    exact wpIn_exit (hk _ _ _ _ _ _ R h)
  | .ret, ac, hc, _, Z, M, s, a, w, R, Q, Qc, h, hk, hO => by
    cases hc
    exact wpIn_ret (hk _ _ _ _ _ _ R h)
  | .loop _, ac, _, hp, _, _, _, _, _, _, _, _, _, _, _ => by cases hp
  | .rangeFunc _ _ _ _, ac, hc, _, _, _, _, _, _, _, _, _, _, _, _ => by cases hc
  | .scope _, ac, hc, _, _, _, _, _, _, _, _, _, _, _, _ => by cases hc
  | .label _, ac, hc, _, _, _, _, _, _, _, _, _, _, _, _ => by cases hc
  | .goto _, ac, hc, _, _, _, _, _, _, _, _, _, _, _, _ => by cases hc
  | .refuse _, ac, hc, _, _, _, _, _, _, _, _, _, _, _, _ => by cases hc
end
end Go.Eng

/- Code on a walk's values agrees with Go's ('awp_sound'); how a function on data is shown ('Giv.of', 'GivO.of'). No condition but that the program draws its orders. -/
import Derived.Test.YthbdglibakjfbaaDoorEngM
set_option linter.unusedSectionVars false
namespace Go.Eng
open Go.RowKit
variable [Inhabited Lo]
section
variable {P : Program} {c : Cx} {Z Z' : Nat → Prop} {M : Nat → Option Nat} {s : St} {a : Act} {w w' : World}

def takO (P : Program) (own : List Nat) (nt : Nat) (ops : Array Oper) (i : Nat) : Bool := match cmpO P own nt ops i with | some ao => ao.ins.take | none => false
def badO (P : Program) (own : List Nat) (nt : Nat) (ops : Array Oper) (i : Nat) : Bool := match cmpO P own nt ops i with | some ao => ao.ins.bad | none => false
def tcond (ops : Array Oper) (bad : Nat → Bool) (listed : Array Bool) (i : Nat) : Bool := (List.range ops.size).all fun j => !bad j || listed.getD j true || (waiters ops i).contains j
/-- the variable that an operation writes through a slot -/
def rootT (ops : Array Oper) : Nat → Nat → Nat
  | 0, t => t
  | f + 1, t => match ops.toList.find? fun o => o.dst == some t with
    | some o => match o.op with
      | .move (.tmp x) => rootT ops f x
      | .fieldAddr _ (.tmp x) _ => rootT ops f x
      | .indexAddr _ (.tmp x) _ => rootT ops f x
      | _ => t
    | none => t
/-- those of prot that are not made in the region -/
def protX (prot : List Nat) (ops : Array Oper) : List Nat := prot.filter fun n => !(ops.toList.filterMap fun o => match o.op with | .box _ _ => o.dst | .alloc _ => o.dst | _ => none).contains n
/-- those of base that operation j does not write -/
def pjO (P : Program) (own : List Nat) (nt : Nat) (ops : Array Oper) (base : List Nat) (j : Nat) : List Nat := match cmpO P own nt ops j with
  | some ao => match ao.ins with
    | .st _ (.tmp a) _ => base.filter fun n => n != rootT ops 8 a
    | .st _ _ _ => []
    | _ => base
  | none => base
theorem pjO_sub {P : Program} {own : List Nat} {nt : Nat} {ops : Array Oper} {base : List Nat} {j n : Nat} (h : n ∈ pjO P own nt ops base j) : n ∈ base := by
  unfold pjO at h
  split at h
  · split at h
    · exact (List.mem_filter.1 h).1
    · cases h
    · exact h
  · exact h
theorem pjO_eq {P : Program} {own : List Nat} {nt : Nat} {ops : Array Oper} {base : List Nat} {i : Nat} {ao : AOper} (hc : cmpO P own nt ops i = some ao) (h : ao.ins.isSt = false) : pjO P own nt ops base i = base := by
  unfold pjO
  rw [hc]
  dsimp only
  split
  · rename_i e; rw [e] at h; cases h
  · rename_i e; rw [e] at h; cases h
  · rfl
theorem pjO_out {P : Program} {own : List Nat} {nt : Nat} {ops : Array Oper} {base : List Nat} {j : Nat} (h : ¬ j < ops.size) : pjO P own nt ops base j = base := by
  have : ops[j]? = none := Array.getElem?_eq_none (Nat.le_of_not_lt h)
  simp [pjO, cmpO, this]
def others (ops : Array Oper) (listed : Array Bool) (i j : Nat) : Bool := listed.getD j true || j == i || (waiters ops i).contains j
def pcond (ops : Array Oper) (base : List Nat) (pj : Nat → List Nat) (listed : Array Bool) (i : Nat) (pr : List Nat) : Bool := (pr.all fun n => base.contains n) && (List.range ops.size).all fun j => others ops listed i j || pr.all fun n => (pj j).contains n
def prI (ops : Array Oper) (base : List Nat) (pj : Nat → List Nat) (listed : Array Bool) (i : Nat) : List Nat := base.filter fun n => (List.range ops.size).all fun j => others ops listed i j || (pj j).contains n
def okTake (ops : Array Oper) (bad : Nat → Bool) (base : List Nat) (pj : Nat → List Nat) (listed : Array Bool) (i : Nat) (early : Bool) (pr : List Nat) : Bool := (Region.ready .any ops listed).contains i && Region.free .any ops listed i && closedT ops listed i (waiters ops i) && (if early = true then pcond ops base pj listed i pr else tcond ops bad listed i)
def okSched (ops : Array Oper) (tak bad : Nat → Bool) (base : List Nat) (pj : Nat → List Nat) : List (Nat × Bool × List Nat) → Array Bool → Bool
  | [], listed => (Region.ready .any ops listed).isEmpty
  | (i, early, pr) :: rest, listed => (if tak i = true then okTake ops bad base pj listed i early pr
      else Region.ready .any ops listed == [i] && pr == pj i) && okSched ops tak bad base pj rest (listed.setIfInBounds i true)
def takP (ops : Array Oper) (bad : Nat → Bool) (base : List Nat) (pj : Nat → List Nat) (listed : Array Bool) (i : Nat) : Bool × List Nat := if tcond ops bad listed i = true then (false, []) else (true, prI ops base pj listed i)
def greedy (ops : Array Oper) (tak bad : Nat → Bool) (base : List Nat) (pj : Nat → List Nat) : Nat → Array Bool → List (Nat × Bool × List Nat)
  | 0, _ => []
  | f + 1, listed => match (Region.ready .any ops listed).find? tak with
    | some i => (i, takP ops bad base pj listed i) :: greedy ops tak bad base pj f (listed.setIfInBounds i true)
    | none => match Region.ready .any ops listed with
      | i :: _ => (i, false, pj i) :: greedy ops tak bad base pj f (listed.setIfInBounds i true)
      | [] => []
def cmpE (P : Program) (own : List Nat) (nt : Nat) (ops : Array Oper) (p : Nat × Bool × List Nat) : Option (AOper × Bool × List Nat) := (cmpO P own nt ops p.1).map fun o => (o, p.2)
def drawOps (P : Program) (own base : List Nat) (nt : Nat) (ops : Array Oper) : Option (List (AOper × Bool × List Nat)) :=
  let ord := greedy ops (takO P own nt ops) (badO P own nt ops) base (pjO P own nt ops base) ops.size (Array.replicate ops.size false)
  if (okSched ops (takO P own nt ops) (badO P own nt ops) base (pjO P own nt ops base) ord (Array.replicate ops.size false) && ord.length == ops.size && Region.noSelect ops) = true then ord.mapM (cmpE P own nt ops) else none

/-- the blocks that operation j does not write -/
def RdO (P : Program) (own : List Nat) (nt : Nat) (ops : Array Oper) (base : List Nat) (Z : Nat → Prop) (M : Nat → Option Nat) (j b : Nat) : Prop := Rn Z M (pjO P own nt ops base j) b
/-- one operation that writes, of those that may come next -/
theorem do_step {own base : List Nat} {ops : Array Oper} {Q : Exit → Act → World → Prop} {i : Nat} {ao : AOper} {early : Bool} {listed : Array Bool} {n : Nat} (hc : cmpO P own c.nt ops i = some ao) (ht : ao.ins.take = false) (R : Rep c Z M s a w) {Kn : St → Prop} (h : opD P (pjO P own c.nt ops base i) ao early s Kn)
    (next : ∀ Z' M' s' a' w', Rep c Z' M' s' a' w' → Kn s' → wpAnyR P ops Q (badO P own c.nt ops) n (RdO P own c.nt ops base Z' M') (listed.setIfInBounds i true) a' w') :
    wpOp P ops Q i (fun a' w' => Pres (RdO P own c.nt ops base Z M i) w w' ∧ (badO P own c.nt ops i = false → Below w.heap.size w w') ∧ ∃ Rd', (∀ j b, RdO P own c.nt ops base Z M j b → Rd' j b) ∧ wpAnyR P ops Q (badO P own c.nt ops) n Rd' (listed.setIfInBounds i true) a' w') a w := by
  have hbad : badO P own c.nt ops i = ao.ins.bad := by unfold badO; rw [hc]
  obtain ⟨o, ho, hdst, hh, hd⟩ := opD_sound R hc h
  unfold wpOp
  simp only [ho]
  rcases hh with ⟨s1, R1, hw, hcm, h⟩ | ⟨s1, R1, hw, h⟩
  · rw [if_pos hw]
    refine .inl ?_
    unfold runD at h
    rw [if_neg (by simp [ht])] at h
    rcases cmpX_spec hcm with ⟨hm, hcm⟩ | ⟨hm, cl, hop, hi⟩
    rotate_left
    · rw [if_pos hm, ← hdst] at h
      refine m_sound R1 hop hi hd h fun Z' M' s' a' w' ns R' hz hE hp h' => ⟨Pres.eff R1 hE hp, fun hb' => (by rw [hbad, Ins.bad_M hm] at hb'; cases hb'), RdO P own c.nt ops base Z' M', fun j b hb => ?_, next _ _ _ _ _ R' h'⟩
      rcases hb with hb | ⟨n, hn, hb⟩
      · exact .inl (hz b hb)
      · refine .inr ⟨n, hn, ?_⟩
        have hni : n ∈ pjO P own c.nt ops base i := by rw [pjO_eq hc (Ins.isSt_M hm)]; exact pjO_sub hn
        rw [hE.at_ n (fun h => hp n h hni)]; exact hb
    rw [if_neg (by simp [hm])] at h
    obtain ⟨hp, h⟩ := h
    rw [← hdst] at h
    refine do_sound R1 hcm hd h fun Z' M' s' a' w' R' hz hb hE hst h' => ⟨Pres.eff R1 hE hp, fun hb' => hb (by rw [← hbad]; exact hb'), RdO P own c.nt ops base Z' M', fun j b hb => ?_, next _ _ _ _ _ R' h'⟩
    rcases hb with hb | ⟨n, hn, hb⟩
    · exact .inl (hz b hb)
    · refine .inr ⟨n, hn, ?_⟩
      cases hs : ao.ins.isSt with
      | true => rw [hst hs]; exact hb
      | false =>
        have hni : n ∈ pjO P own c.nt ops base i := by rw [pjO_eq hc hs]; exact pjO_sub hn
        rw [hE.at_ n (fun h => hp n h hni)]; exact hb
  · rw [if_neg (by simp [hw])]
    exact ⟨fun _ _ => rfl, fun _ => Below.refl _ _, _, fun _ _ h => h, next _ _ _ _ _ (R1.forget hd) h⟩
/-- one operation that reads, taken ahead of all others -/
theorem take_step {own base pr : List Nat} {ops : Array Oper} {Q : Exit → Act → World → Prop} (hsel : Region.noSelect ops = true) (hQ : ∀ ch a w, ¬ Q (.panic ch) a w) {i : Nat} {ao : AOper} {early : Bool} {listed : Array Bool} {n : Nat} (hc : cmpO P own c.nt ops i = some ao) (ht : ao.ins.take = true)
    (h1 : okTake ops (badO P own c.nt ops) base (pjO P own c.nt ops base) listed i early pr = true) (R : Rep c Z M s a w) {Kn : St → Prop} (h : opD P pr ao early s Kn)
    (next : ∀ s' a', Rep c Z M s' a' w → Kn s' → wpAnyR P ops Q (badO P own c.nt ops) n (RdO P own c.nt ops base Z M) (listed.setIfInBounds i true) a' w) :
    wpAnyR P ops Q (badO P own c.nt ops) (n + 1) (RdO P own c.nt ops base Z M) listed a w := by
  obtain ⟨o, ho, hdst, hh, hd⟩ := opD_sound R hc h
  unfold okTake at h1
  simp only [Bool.and_eq_true] at h1
  obtain ⟨⟨⟨g1, g2⟩, g3⟩, g4⟩ := h1
  unfold closedT at g3
  simp only [List.all_eq_true, Bool.and_eq_true, Bool.not_eq_true', bne_iff_ne] at g3
  have hT : ∀ j ∈ waiters ops i, j ≠ i ∧ ∃ o, ops[j]? = some o ∧ ∃ e ∈ o.after, Region.binds .any e = true ∧ (e.on = i ∨ e.on ∈ waiters ops i) := fun j hj => by
    obtain ⟨⟨_, k2⟩, k3⟩ := g3 j hj
    refine ⟨k2, ?_⟩
    cases hoj : ops[j]? with
    | none => simp [hoj] at k3
    | some oj =>
      simp only [hoj] at k3
      obtain ⟨e, he, k4⟩ := Array.any_eq_true'.1 k3
      simp only [Bool.and_eq_true, Bool.or_eq_true, beq_iff_eq, List.contains_iff_mem] at k4
      exact ⟨oj, rfl, e, he, k4.1, k4.2⟩
  have hbad : early = false → ∀ j, badO P own c.nt ops j = true → listed.getD j true = false → j ∈ waiters ops i := fun he j hb hu => by
    have hjl : j < ops.size := by
      unfold badO cmpO at hb
      cases hoj : ops[j]? with
      | none => simp [hoj] at hb
      | some oj => exact (Array.getElem?_eq_some_iff.1 hoj).1
    rw [if_neg (by rw [he]; simp)] at g4
    unfold tcond at g4
    simp only [List.all_eq_true, Bool.or_eq_true, Bool.not_eq_true'] at g4
    rcases g4 j (List.mem_range.2 hjl) with (k | k) | k
    · rw [hb] at k; cases k
    · rw [hu] at k; cases k
    · simpa using k
  have hRI : early = true → ∀ j, listed.getD j true = false → j ≠ i → j ∉ waiters ops i → ∀ b, Rn Z M pr b → RdO P own c.nt ops base Z M j b := fun he j hu hji hjT b hb => by
    rw [if_pos he] at g4
    unfold pcond at g4
    simp only [Bool.and_eq_true, List.all_eq_true] at g4
    rcases hb with hb | ⟨m, hm, hb⟩
    · exact .inl hb
    · refine .inr ⟨m, ?_, hb⟩
      by_cases hjl : j < ops.size
      · have k := g4.2 j (List.mem_range.2 hjl)
        rw [Bool.or_eq_true] at k
        rcases k with k | k
        · unfold others at k
          simp only [Bool.or_eq_true, beq_iff_eq, List.contains_iff_mem] at k
          rcases k with (k | k) | k
          · rw [hu] at k; cases k
          · exact absurd k hji
          · exact absurd k hjT
        · simpa using List.all_eq_true.1 k m hm
      · rw [pjO_out hjl]
        simpa using g4.1 m hm
  have take : ∀ v s', YieldsIf P ops (Sx early (Rn Z M pr) w) o v a → Rep c Z M s' (a.put o.dst v) w → Kn s' → wpAnyR P ops Q (badO P own c.nt ops) (n + 1) (RdO P own c.nt ops base Z M) listed a w := fun v s' hy R' h' =>
    wpAnyR_first (T := waiters ops i) ho (Region.noSelect_spec hsel) (fun c a w h => absurd h (hQ _ _ _)) hT n _ listed a w (Region.free_spec ho g2) (fun j hj => (g3 j hj).1.1) hbad hRI
      (by simpa using g1) hy ⟨_, fun _ _ h => h, next _ _ R' h'⟩
  rcases hh with ⟨s1, R1, hw, hcm, h⟩ | ⟨s1, R1, hw, h⟩
  · unfold runD at h
    rw [if_pos ht] at h
    obtain ⟨hp, h⟩ := h
    rcases cmpX_spec hcm with ⟨_, hcm⟩ | ⟨hm, _⟩
    rotate_left
    · rw [Ins.take_M hm] at ht; cases ht
    obtain ⟨v, x, k1, k2, k3⟩ := tk_sound R1 hcm h
    refine take x _ (.inl ⟨hw, fun w' hw' => k1 w' ?_⟩) (R1.put hd k2) (by rw [hdst]; exact k3)
    cases early with
    | true => exact ⟨fun b hb => hw' b (.inl hb), fun n hn b hb => hw' b (.inr ⟨n, hp rfl n hn, hb⟩)⟩
    | false => exact R1.agr hw'
  · exact take undef _ (.inr ⟨hw, rfl⟩) (R1.forget hd) h
/-! ### two that write, in either order -/
inductive Tr where
  | done
  | one (i : Nat) (early : Bool) (pr : List Nat) (t : Tr)
  | fork (i j : Nat) (a b : Tr)
inductive ATr where
  | done
  | one (o : AOper) (early : Bool) (pr : List Nat) (t : ATr)
  | fork (o p : AOper) (pr pr' : List Nat) (a b : ATr)
def Tr.len : Tr → Nat
  | .done => 0
  | .one _ _ _ t => t.len + 1
  | .fork _ _ a _ => a.len + 1
def greedyT (ops : Array Oper) (tak bad : Nat → Bool) (base : List Nat) (pj : Nat → List Nat) : Nat → Array Bool → Tr
  | 0, _ => .done
  | f + 1, listed => match (Region.ready .any ops listed).find? tak with
    | some i => .one i (takP ops bad base pj listed i).1 (takP ops bad base pj listed i).2 (greedyT ops tak bad base pj f (listed.setIfInBounds i true))
    | none => match Region.ready .any ops listed with
      | [] => .done
      | [i] => .one i false (pj i) (greedyT ops tak bad base pj f (listed.setIfInBounds i true))
      | i :: j :: _ => .fork i j (greedyT ops tak bad base pj f (listed.setIfInBounds i true)) (greedyT ops tak bad base pj f (listed.setIfInBounds j true))
def okTr (ops : Array Oper) (tak bad : Nat → Bool) (base : List Nat) (pj : Nat → List Nat) : Tr → Array Bool → Bool
  | .done, listed => (Region.ready .any ops listed).isEmpty
  | .one i early pr t, listed => (if tak i = true then okTake ops bad base pj listed i early pr
      else Region.ready .any ops listed == [i] && pr == pj i) && okTr ops tak bad base pj t (listed.setIfInBounds i true)
  | .fork i j a b, listed => !tak i && !tak j && Region.ready .any ops listed == [i, j] && a.len == b.len && okTr ops tak bad base pj a (listed.setIfInBounds i true) && okTr ops tak bad base pj b (listed.setIfInBounds j true)
def cmpT (P : Program) (own base : List Nat) (nt : Nat) (ops : Array Oper) : Tr → Option ATr
  | .done => some .done
  | .one i early pr t => match cmpO P own nt ops i, cmpT P own base nt ops t with
    | some o, some t => some (.one o early pr t)
    | _, _ => none
  | .fork i j a b => match cmpO P own nt ops i, cmpO P own nt ops j, cmpT P own base nt ops a, cmpT P own base nt ops b with
    | some o, some p, some a, some b => some (.fork o p (pjO P own nt ops base i) (pjO P own nt ops base j) a b)
    | _, _, _, _ => none
def opsT (P : Program) : ATr → St → (St → Prop) → Prop
  | .done, s, K => K s
  | .one o e pr t, s, K => opD P pr o e s fun s => opsT P t s K
  | .fork o p pr pr' a b, s, K => (opD P pr o false s fun s => opsT P a s K) ∧ opD P pr' p false s fun s => opsT P b s K
theorem tree_sound {own base : List Nat} {ops : Array Oper} {Q : Exit → Act → World → Prop} (hsel : Region.noSelect ops = true) (hQ : ∀ ch a w, ¬ Q (.panic ch) a w) : ∀ (t : Tr) (listed : Array Bool) (at_ : ATr), cmpT P own base c.nt ops t = some at_ → okTr ops (takO P own c.nt ops) (badO P own c.nt ops) base (pjO P own c.nt ops base) t listed = true →
    ∀ {Z : Nat → Prop} {M : Nat → Option Nat} {s : St} {a : Act} {w : World}, Rep c Z M s a w → ∀ {K : St → Prop}, opsT P at_ s K →
    (∀ Z' M' s' a' w', Rep c Z' M' s' a' w' → K s' → Q .normal a' w') → wpAnyR P ops Q (badO P own c.nt ops) t.len (RdO P own c.nt ops base Z M) listed a w
  | .done, listed, at_, hm, hs, Z, M, s, a, w, R, K, h, hk => by
    cases hm
    unfold okTr at hs
    exact ⟨List.isEmpty_iff.1 hs, hk _ _ _ _ _ R h⟩
  | .one i early pr t, listed, at_, hm, hs, Z, M, s, a, w, R, K, h, hk => by
    unfold cmpT at hm
    cases hc : cmpO P own c.nt ops i with
    | none => simp [hc] at hm
    | some ao =>
      cases hr : cmpT P own base c.nt ops t with
      | none => simp [hc, hr] at hm
      | some rest =>
        simp only [hc, hr, Option.some.injEq] at hm
        subst hm
        unfold okTr at hs
        rw [Bool.and_eq_true] at hs
        obtain ⟨h1, h2⟩ := hs
        have htak : takO P own c.nt ops i = ao.ins.take := by unfold takO; rw [hc]
        have h : opD P pr ao early s fun s => opsT P rest s K := h
        cases ht : ao.ins.take with
        | true =>
          rw [htak, ht, if_pos rfl] at h1
          exact take_step hsel hQ hc ht h1 R h fun s' a' R' h' => tree_sound hsel hQ t _ rest hr h2 R' h' hk
        | false =>
          rw [htak, ht, if_neg (by simp), Bool.and_eq_true, beq_iff_eq, beq_iff_eq] at h1
          rw [h1.2] at h
          exact wpAnyR_step h1.1 (do_step hc ht R h fun Z' M' s' a' w' R' h' => tree_sound hsel hQ t _ rest hr h2 R' h' hk)
  | .fork i j ta tb, listed, at_, hm, hs, Z, M, s, a, w, R, K, h, hk => by
    unfold cmpT at hm
    cases hc : cmpO P own c.nt ops i with
    | none => simp [hc] at hm
    | some ao =>
      cases hd : cmpO P own c.nt ops j with
      | none => simp [hc, hd] at hm
      | some ap =>
        cases ha : cmpT P own base c.nt ops ta with
        | none => simp [hc, hd, ha] at hm
        | some ra =>
          cases hb : cmpT P own base c.nt ops tb with
          | none => simp [hc, hd, ha, hb] at hm
          | some rb =>
            simp only [hc, hd, ha, hb, Option.some.injEq] at hm
            subst hm
            unfold okTr at hs
            simp only [Bool.and_eq_true, Bool.not_eq_true', beq_iff_eq] at hs
            obtain ⟨⟨⟨⟨⟨g1, g2⟩, g3⟩, g4⟩, g5⟩, g6⟩ := hs
            have hi : ao.ins.take = false := by unfold takO at g1; rw [hc] at g1; exact g1
            have hj : ap.ins.take = false := by unfold takO at g2; rw [hd] at g2; exact g2
            obtain ⟨k1, k2⟩ := h
            refine ⟨fun h0 => (by rw [g3] at h0; cases h0), fun k hk' => ?_⟩
            rw [g3] at hk'
            rcases List.mem_cons.1 hk' with rfl | hk'
            · exact do_step hc hi R k1 fun Z' M' s' a' w' R' h' => tree_sound hsel hQ ta _ ra ha g5 R' h' hk
            · rw [List.mem_singleton] at hk'
              subst hk'
              refine do_step hd hj R k2 fun Z' M' s' a' w' R' h' => ?_
              show wpAnyR P ops Q (badO P own c.nt ops) ta.len _ _ _ _
              rw [g4]
              exact tree_sound hsel hQ tb _ rb hb g6 R' h' hk
def drawTr (P : Program) (own base : List Nat) (nt : Nat) (ops : Array Oper) : Option ATr :=
  let t := greedyT ops (takO P own nt ops) (badO P own nt ops) base (pjO P own nt ops base) ops.size (Array.replicate ops.size false)
  if okTr ops (takO P own nt ops) (badO P own nt ops) base (pjO P own nt ops base) t (Array.replicate ops.size false) && t.len == ops.size && Region.noSelect ops then cmpT P own base nt ops t else none
theorem sched_sound {own base : List Nat} {ops : Array Oper} {Q : Exit → Act → World → Prop} (hsel : Region.noSelect ops = true) (hQ : ∀ ch a w, ¬ Q (.panic ch) a w) : ∀ (l : List (Nat × Bool × List Nat)) (listed : Array Bool) (aos : List (AOper × Bool × List Nat)), l.mapM (cmpE P own c.nt ops) = some aos → okSched ops (takO P own c.nt ops) (badO P own c.nt ops) base (pjO P own c.nt ops base) l listed = true →
    ∀ {Z : Nat → Prop} {M : Nat → Option Nat} {s : St} {a : Act} {w : World}, Rep c Z M s a w → ∀ {K : St → Prop}, opsD P aos s K →
    (∀ Z' M' s' a' w', Rep c Z' M' s' a' w' → K s' → Q .normal a' w') → wpAnyR P ops Q (badO P own c.nt ops) l.length (RdO P own c.nt ops base Z M) listed a w
  | [], listed, aos, hm, hs, Z, M, s, a, w, R, K, h, hk => by
    simp at hm; subst hm
    unfold okSched at hs
    exact ⟨List.isEmpty_iff.1 hs, hk _ _ _ _ _ R h⟩
  | (i, early, pr) :: l, listed, aos, hm, hs, Z, M, s, a, w, R, K, h, hk => by
    rw [List.mapM_cons] at hm
    cases hc : cmpO P own c.nt ops i with
    | none => simp [cmpE, hc] at hm
    | some ao =>
      have hce : cmpE P own c.nt ops (i, early, pr) = some (ao, early, pr) := by simp [cmpE, hc]
      rw [hce] at hm
      cases hr : l.mapM (cmpE P own c.nt ops) with
      | none => simp [hr] at hm
      | some rest =>
        have hm : aos = (ao, early, pr) :: rest := by
          simp [hr] at hm
          exact hm.symm
        subst hm
        unfold okSched at hs
        rw [Bool.and_eq_true] at hs
        obtain ⟨h1, h2⟩ := hs
        have htak : takO P own c.nt ops i = ao.ins.take := by unfold takO; rw [hc]
        have h : opD P pr ao early s fun s => opsD P rest s K := h
        cases ht : ao.ins.take with
        | true =>
          rw [htak, ht, if_pos rfl] at h1
          exact take_step hsel hQ hc ht h1 R h fun s' a' R' h' => sched_sound hsel hQ l _ rest hr h2 R' h' hk
        | false =>
          rw [htak, ht, if_neg (by simp), Bool.and_eq_true, beq_iff_eq, beq_iff_eq] at h1
          rw [h1.2] at h
          exact wpAnyR_step h1.1 (do_step hc ht R h fun Z' M' s' a' w' R' h' => sched_sound hsel hQ l _ rest hr h2 R' h' hk)

/-! ### code -/
 inductive ACode where
  | skip
  | ops (l : List AOper)
  | draw (l : List (AOper × Bool × List Nat))
  | drawT (t : ATr)
  | seq (a b : ACode)
  | cond (c : Operand) (a b : ACode)
  | block (id : Nat) (a : ACode)
  | loop (a : ACode)
  | exit (id : Nat)
  | ret
/-- the variables of a code that have blocks of their own -/
def boxes : Code → List Nat
  | .region _ ops _ => ops.toList.filterMap fun o => match o.op with | .box _ _ => o.dst | .alloc _ => o.dst | _ => none
  | .seq x y => boxes x ++ boxes y
  | .cond _ x y => boxes x ++ boxes y
  | .block _ x => boxes x
  | .loop x => boxes x
  | _ => []
def cmpC (P : Program) (own prot : List Nat) (nt : Nat) : Code → Option ACode
  | .skip => some .skip
  | .region _ ops draw => if draw = true then (match drawOps P own (protX prot ops) nt ops with | some l => some (.draw l) | none => (drawTr P own (protX prot ops) nt ops).map .drawT) else ((List.range ops.size).mapM (cmpO P own nt ops)).map .ops
  | .seq x y => match cmpC P own prot nt x, cmpC P own prot nt y with
    | some x, some y => some (.seq x y)
    | _, _ => none
  | .cond q x y => match cmpC P own prot nt x, cmpC P own prot nt y with
    | some x, some y => some (.cond q x y)
    | _, _ => none
  | .block id x => (cmpC P own prot nt x).map (.block id)
  | .loop x => (cmpC P own prot nt x).map .loop
  | .exit id => some (.exit id)
  | .ret => some .ret
  | _ => none
/-- a slice that is nil, as an own row of no elements: in a slot, or in a cell of an own object -/
def adoptS (t n es : Nat) (s : St) (K : St → Prop) : Prop := s.tm t = .d (.c (.slice none 0 0)) ∧ 0 < es ∧ n < 2000000 ∧ K ((s.renew n (.row es [])).put (some t) (.sl n es 0 0))
def adoptB (m i n es : Nat) (s : St) (K : St → Prop) : Prop := m ≠ n ∧ 0 < es ∧ n < 2000000 ∧ ∃ cs, s.hp m = some (.box cs) ∧ cs[i]? = some (.d (.c (.slice none 0 0))) ∧ K ((s.renew n (.row es [])).turn m (.box ((AV.killL (some n) cs).set i (.sl n es 0 0))))
def adopts : List (Option Nat × Nat × Nat × Nat) → St → (St → Prop) → Prop
  | [], s, K => K s
  | (none, t, n, es) :: l, s, K => adoptS t n es s fun s => adopts l s K
  | (some m, i, n, es) :: l, s, K => adoptB m i n es s fun s => adopts l s K
def thenQ (K : St → Prop) (Q : Exit → St → Prop) : Exit → St → Prop
  | .normal, s => K s
  | e, s => Q e s
def inBlk (id : Nat) (Q : Exit → St → Prop) : Exit → St → Prop
  | .exit id', s => if id' = id then Q .normal s else Q (.exit id') s
  | e, s => Q e s
def awp (P : Program) : ACode → (Exit → St → Prop) → St → Prop
  | .skip, Q, s => Q .normal s
  | .ops l, Q, s => opsW P l s (Q .normal)
  | .draw l, Q, s => opsD P l s (Q .normal)
  | .drawT t, Q, s => opsT P t s (Q .normal)
  | .seq x y, Q, s => awp P x (thenQ (awp P y Q) Q) s
  | .cond q x y, Q, s => boolW (ev s q) fun t => (t = true → awp P x Q s) ∧ (t = false → awp P y Q s)
  | .block id x, Q, s => awp P x (inBlk id Q) s
  | .loop x, Q, s => ∃ (tl : List Nat) (s1 : St), Gh tl s [] s1 [] ∧ ∃ (l : List (Option Nat × Nat × Nat × Nat)) (I : St → Prop) (μ : St → Nat), adopts l s1 I ∧ ∀ s, I s → awp P x (thenQ (fun s' => ∃ (tl : List Nat) (s2 : St), Gh tl s' [] s2 [] ∧ I s2 ∧ μ s2 < μ s) Q) s
  | .exit id, Q, s => Q (.exit id) s
  | .ret, Q, s => Q .ret s

theorem adoptS_sound (R : Rep c Z M s a w) {t n es : Nat} {K : St → Prop} (h : adoptS t n es s K) (ht : t < c.nt) : ∃ M' s', Rep c Z M' s' a w ∧ K s' := by
  obtain ⟨h1, h2, hfx, h3⟩ := h
  have g : w.grownBy w none := ⟨rfl, rfl, rfl, Nat.le_refl _, fun _ _ _ => rfl⟩
  have R1 := R.renew n hfx (row := none) (o := .row es []) (M' := fun m => if m = n then none else M m) g (by simp) (fun m hm => by simp [hm]) ⟨h2, .inl ⟨by simp, rfl⟩⟩ (fun b hb => by simp at hb)
  have hv := R.tm t
  rw [h1] at hv
  exact ⟨_, _, R1.again ht (by unfold AR; exact ⟨none, 0, hv.c_.1, Nat.le_refl _, Nat.zero_le _, fun _ => .inl ⟨by simp, rfl, rfl⟩⟩), h3⟩
theorem ARs.setAt {cs : List AV} {xs : List Value} (h : ARs Z M w cs xs) {i : Nat} {v : AV} {x : Value} (hx : xs[i]? = some x) (hv : AR Z M w v x) : ARs Z M w (cs.set i v) xs := by
  induction cs generalizing xs i with
  | nil => exact h
  | cons c cs ih =>
    unfold ARs at h
    obtain ⟨y, ys, rfl, h1, h2, h3⟩ := h
    cases i with
    | zero =>
      simp at hx; subst hx
      simp only [List.set_cons_zero]
      unfold ARs
      exact ⟨y, ys, rfl, h1, hv, h3⟩
    | succ i =>
      simp only [List.set_cons_succ]
      unfold ARs
      exact ⟨y, ys, rfl, h1, h2, ih h3 (by simpa using hx)⟩
theorem adoptB_sound (R : Rep c Z M s a w) {m i n es : Nat} {K : St → Prop} (h : adoptB m i n es s K) : ∃ M' s', Rep c Z M' s' a w ∧ K s' := by
  obtain ⟨hmn, h2, hfx, cs, hm, hi, h3⟩ := h
  have g : w.grownBy w none := ⟨rfl, rfl, rfl, Nat.le_refl _, fun _ _ _ => rfl⟩
  have R1 := R.renew n hfx (row := none) (o := .row es []) (M' := fun m => if m = n then none else M m) g (by simp) (fun m hm => by simp [hm]) ⟨h2, .inl ⟨by simp, rfl⟩⟩ (fun b hb => by simp at hb)
  have hm1 : (s.renew n (.row es [])).hp m = some (.box (AV.killL (some n) cs)) := by simp [St.renew, hmn, hm, Ob.kill]
  obtain ⟨b, xs, e, g1, g2, g3, g4⟩ := R1.ob m _ hm1
  have hk : ∀ (l : List AV) (i : Nat) v, l[i]? = some v → (AV.killL (some n) l)[i]? = some (v.kill (some n)) := by
    intro l
    induction l with
    | nil => intro i v h; simp at h
    | cons x l ih =>
      intro i v h
      simp only [AV.killL]
      cases i with
      | zero => simp at h; subst h; rfl
      | succ i => simpa using ih i v (by simpa using h)
  obtain ⟨x, hx, _, hv⟩ := ARs.get _ _ g3 i _ (hk cs i _ hi)
  have hkd : AV.kill (some n) (.d (.c (.slice none 0 0))) = .d (.c (.slice none 0 0)) := by rw [AV.kill]
  rw [hkd] at hv
  refine ⟨_, _, R1.turn m (b := b) (o := .box ((AV.killL (some n) cs).set i (.sl n es 0 0))) ⟨rfl, rfl, rfl, Nat.le_refl _, fun _ _ _ => rfl⟩ ⟨_, hm1, rfl⟩ g1 (fun _ h => h) ⟨b, xs, e, g1, g2, ARs.setAt g3 hx ?_, g4⟩, h3⟩
  unfold AR
  exact ⟨none, 0, hv.c_.1, Nat.le_refl _, Nat.zero_le _, fun _ => .inl ⟨by simp, rfl, rfl⟩⟩
theorem adoptS_lt (R : Rep c Z M s a w) {t n es : Nat} {K : St → Prop} (h : adoptS t n es s K) : t < c.nt := by
  refine Decidable.byContradiction fun hn => ?_
  have hv := R.tm t
  rw [h.1] at hv
  have e : a.tmps.getD t undef = undef := by
    have : ¬ t < a.tmps.size := by rw [R.size]; exact hn
    simp [Array.getD, this]
  rw [e] at hv
  have := hv.c_.1
  simp [undef] at this
theorem adopts_sound : ∀ (l : List (Option Nat × Nat × Nat × Nat)) {M : Nat → Option Nat} {s : St}, Rep c Z M s a w → ∀ {K : St → Prop}, adopts l s K → ∃ M' s', Rep c Z M' s' a w ∧ K s'
  | [], M, s, R, K, h => ⟨M, s, R, h⟩
  | (none, t, n, es) :: l, M, s, R, K, h => by
    have h : adoptS t n es s fun s => adopts l s K := h
    obtain ⟨M1, s1, R1, h1⟩ := adoptS_sound R h (adoptS_lt R h)
    exact adopts_sound l R1 h1
  | (some m, i, n, es) :: l, M, s, R, K, h => by
    have h : adoptB m i n es s fun s => adopts l s K := h
    obtain ⟨M1, s1, R1, h1⟩ := adoptB_sound R h
    exact adopts_sound l R1 h1

theorem awp_sound (hm : P.follows .mixedOrders = true) {own prot : List Nat} : ∀ (cd : Code) (ac : ACode), cmpC P own prot c.nt cd = some ac → ∀ {Z : Nat → Prop} {M : Nat → Option Nat} {s : St} {a : Act} {w : World}, Rep c Z M s a w →
    ∀ {Q : Exit → St → Prop} {Qc : Exit → Act → World → Prop}, awp P ac Q s → (∀ e Z' M' s' a' w', Rep c Z' M' s' a' w' → Q e s' → Qc e a' w') → (∀ ch a w, ¬ Qc (.panic ch) a w) → cd.wp P Qc a w
  | .skip, ac, hc, Z, M, s, a, w, R, Q, Qc, h, hk, hQ => by
    cases hc
    exact wp_skip (hk _ _ _ _ _ _ R h)
  | .region id ops draw, ac, hc, Z, M, s, a, w, R, Q, Qc, h, hk, hQ => by
    unfold cmpC at hc
    cases draw with
    | false =>
      rw [if_neg (by simp)] at hc
      cases hl : (List.range ops.size).mapM (cmpO P own c.nt ops) with
      | none => simp [hl] at hc
      | some l =>
        simp only [hl, Option.map_some, Option.some.injEq] at hc
        subst hc
        exact wp_region (ops_sound _ l hl R h fun Z' M' s' a' w' R' h' => hk _ _ _ _ _ _ R' h')
    | true =>
      rw [if_pos rfl] at hc
      have R1 := R.grow (drew_below w).grow_none
      cases hl : drawOps P own (protX prot ops) c.nt ops with
      | none =>
        simp only [hl] at hc
        cases ht : drawTr P own (protX prot ops) c.nt ops with
        | none => simp [ht] at hc
        | some t =>
          simp only [ht, Option.map_some, Option.some.injEq] at hc
          subst hc
          unfold drawTr at ht
          dsimp only at ht
          split at ht
          · rename_i hcond
            simp only [Bool.and_eq_true, beq_iff_eq] at hcond
            obtain ⟨⟨h1, h2⟩, h3⟩ := hcond
            have := tree_sound (Q := Qc) h3 hQ _ _ t ht h1 R1 h fun Z' M' s' a' w' R' h' => hk _ _ _ _ _ _ R' h'
            rw [h2] at this
            exact wp_region_any hm (wpAny_of_R _ _ _ _ _ this)
          · cases ht
      | some l =>
        simp only [hl, Option.some.injEq] at hc
        subst hc
        unfold drawOps at hl
        dsimp only at hl
        split at hl
        · rename_i hcond
          simp only [Bool.and_eq_true, beq_iff_eq] at hcond
          obtain ⟨⟨h1, h2⟩, h3⟩ := hcond
          have := sched_sound (Q := Qc) h3 hQ _ _ l hl h1 R1 h fun Z' M' s' a' w' R' h' => hk _ _ _ _ _ _ R' h'
          rw [h2] at this
          exact wp_region_any hm (wpAny_of_R _ _ _ _ _ this)
        · cases hl
  | .seq x y, ac, hc, Z, M, s, a, w, R, Q, Qc, h, hk, hQ => by
    unfold cmpC at hc
    cases hx : cmpC P own prot c.nt x with
    | none => simp [hx] at hc
    | some ax =>
      cases hy : cmpC P own prot c.nt y with
      | none => simp [hx, hy] at hc
      | some ay =>
        simp only [hx, hy, Option.some.injEq] at hc
        subst hc
        refine wp_seq (awp_sound hm x ax hx R h (fun e Z' M' s' a' w' R' h' => ?_) fun ch a w h => hQ ch a w h)
        cases e with
        | normal => exact awp_sound hm y ay hy R' h' hk hQ
        | _ => exact hk _ _ _ _ _ _ R' h'
  | .cond q x y, ac, hc, Z, M, s, a, w, R, Q, Qc, h, hk, hQ => by
    unfold cmpC at hc
    cases hx : cmpC P own prot c.nt x with
    | none => simp [hx] at hc
    | some ax =>
      cases hy : cmpC P own prot c.nt y with
      | none => simp [hx, hy] at hc
      | some ay =>
        simp only [hx, hy, Option.some.injEq] at hc
        subst hc
        obtain ⟨t, ht, h1, h2⟩ := boolW_iff (R.ev q) h
        exact wp_cond_split ht (fun e => awp_sound hm x ax hx R (h1 e) hk hQ) (fun e => awp_sound hm y ay hy R (h2 e) hk hQ)
  | .block id x, ac, hc, Z, M, s, a, w, R, Q, Qc, h, hk, hQ => by
    unfold cmpC at hc
    cases hx : cmpC P own prot c.nt x with
    | none => simp [hx] at hc
    | some ax =>
      simp only [hx, Option.map_some, Option.some.injEq] at hc
      subst hc
      refine wp_block (awp_sound hm x ax hx R h (fun e Z' M' s' a' w' R' h' => ?_) fun ch a w h => hQ ch a w h)
      cases e with
      | exit id' =>
        simp only [inBlk] at h'
        simp only [Exit.inBlock]
        split
        · rename_i he; rw [if_pos he] at h'; exact hk _ _ _ _ _ _ R' h'
        · rename_i he; rw [if_neg he] at h'; exact hk _ _ _ _ _ _ R' h'
      | _ => exact hk _ _ _ _ _ _ R' h'
  | .loop x, ac, hc, Z, M, s, a, w, R, Q, Qc, h, hk, hQ => by
    unfold cmpC at hc
    cases hx : cmpC P own prot c.nt x with
    | none => simp [hx] at hc
    | some ax =>
      simp only [hx, Option.map_some, Option.some.injEq] at hc
      subst hc
      obtain ⟨_, s1, hG, ads, I, μ, h0, hround⟩ := h
      obtain ⟨Z1, M1, _, R1, _⟩ := hG c Z M a w [] R (by unfold ARt; rfl)
      obtain ⟨M0, s0, R0, h0⟩ := adopts_sound ads R1 h0
      intro b k cs
      have key : ∀ n (s : St) Z M a w, μ s = n → I s → Rep c Z M s a w →
          ∃ e a' w', Qc e a' w' ∧ Arrives P (lone (b.at a (.code x :: .inLoop x :: k)) cs w) b k cs e a' w' := by
        intro n
        induction n using Nat.strongRecOn with
        | _ n ih =>
          intro s Z M a w hn hI R
          have hb := awp_sound hm x ax hx R (hround s hI) (Qc := Exit.then (fun a' w' => ∃ Z' M' s', Rep c Z' M' s' a' w' ∧ I s' ∧ μ s' < μ s) Qc) (fun e Z' M' s' a' w' R' h' => by
            cases e with
            | normal =>
              obtain ⟨_, s2, hG2, h2⟩ := h'
              obtain ⟨Z2, M2, _, R2, _⟩ := hG2 c Z' M' a' w' [] R' (by unfold ARt; rfl)
              exact ⟨Z2, M2, s2, R2, h2⟩
            | _ => exact hk _ _ _ _ _ _ R' h') (fun ch a w h => hQ ch a w h)
          obtain ⟨e, a₁, w₁, hq, harr⟩ := hb b (.inLoop x :: k) cs
          cases e with
          | normal =>
            obtain ⟨Z', M', s', R', hI', hlt⟩ := hq
            obtain ⟨e₂, a₂, w₂, hq₂, harr₂⟩ := ih (μ s') (hn ▸ hlt) s' Z' M' a₁ w₁ rfl hI' R'
            exact ⟨e₂, a₂, w₂, hq₂, .of_steps (Steps.trans harr (.one step_inLoop)) harr₂⟩
          | exit id => exact ⟨_, a₁, w₁, hq, .pass (x := .inLoop x) rfl (fun _ _ => .inl (by simp)) harr⟩
          | goto l => exact ⟨_, a₁, w₁, hq, .pass (x := .inLoop x) rfl (fun _ _ => .inl (by simp)) harr⟩
          | ret => exact ⟨_, a₁, w₁, hq, .pass (x := .inLoop x) rfl (fun _ _ => .inl (by simp)) harr⟩
          | panic ch => exact ⟨_, a₁, w₁, hq, .pass (x := .inLoop x) rfl (fun _ _ => .inl (by simp)) harr⟩
          | outgrown => exact ⟨_, a₁, w₁, hq, .pass (x := .inLoop x) rfl (fun _ _ => .inl (by simp)) harr⟩
      obtain ⟨e, a', w', hq, harr⟩ := key _ s0 Z1 M0 a w rfl h0 R0
      exact ⟨e, a', w', hq, .of_steps (.one step_loop) harr⟩
  | .exit id, ac, hc, Z, M, s, a, w, R, Q, Qc, h, hk, hQ => by
    cases hc
    exact wp_exit (hk _ _ _ _ _ _ R h)
  | .ret, ac, hc, Z, M, s, a, w, R, Q, Qc, h, hk, hQ => by
    cases hc
    exact wp_ret (hk _ _ _ _ _ _ R h)
  | .rangeFunc _ _ _ _, ac, hc, _, _, _, _, _, _, _, _, _, _, _ => by cases hc
  | .scope _, ac, hc, _, _, _, _, _, _, _, _, _, _, _ => by cases hc
  | .label _, ac, hc, _, _, _, _, _, _, _, _, _, _, _ => by cases hc
  | .goto _, ac, hc, _, _, _, _, _, _, _, _, _, _, _ => by cases hc
  | .refuse _, ac, hc, _, _, _, _, _, _, _, _, _, _, _ => by cases hc
end
end Go.Eng

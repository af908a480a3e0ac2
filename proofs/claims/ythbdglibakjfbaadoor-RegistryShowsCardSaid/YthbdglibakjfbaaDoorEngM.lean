/- Regions on a walk's values agree with Go's, those whose order is open too. No condition but that the program draws its orders ('mixedOrders'). -/
import Derived.Test.YthbdglibakjfbaaDoorEngP
import Derived.OrdersHeld
set_option linter.unusedSectionVars false
namespace Go.Eng
open Go.RowKit
variable [Inhabited Lo]

def Ins.take : Ins → Bool
  | .lit _ _ => false
  | .lit0 _ _ => false
  | .litO _ _ _ => false
  | .box _ _ _ => false
  | .alloc _ _ => false
  | .mk _ _ _ _ _ _ => false
  | .st _ _ _ => false
  | .app _ _ _ _ _ => false
  | .appZ _ _ _ _ _ _ => false
  | .cpy _ _ => false
  | .call _ _ _ => false
  | .callv _ _ _ => false
  | .cvB _ _ => false
  | .mrk _ => false
  | .callm _ _ => false
  | .callvm _ _ => false
  | .mkm _ _ => false
  | .rng _ _ => false
  | .nxt _ => false
  | .litR _ _ => false
  | .appR _ _ _ _ => false
  | .mup _ _ _ _ => false
  | _ => true

theorem Ins.take_M {i : Ins} (h : i.isM = true) : i.take = false := by cases i <;> first | rfl | cases h
theorem Ins.bad_M {i : Ins} (h : i.isM = true) : i.bad = true := by cases i <;> first | rfl | cases h
theorem Ins.isSt_M {i : Ins} (h : i.isM = true) : i.isSt = false := by cases i <;> first | rfl | cases h
/-- an operation of a walk: its slot, what it does, the slot that guards it -/
structure AOper where
  dst : Option Nat
  ins : Ins
  guard : Option (Nat × Bool)

def runW (P : Program) (o : AOper) (s : St) (K : St → Prop) : Prop := if o.ins.take = true then tk o.ins s fun v => K (s.put o.dst v) else if o.ins.isM = true then mW P [] o.ins o.dst s K else doW P o.ins o.dst s K
/-- a guard's slot: a truth value, or nothing (it was guarded itself) -/
def grdW (v : AV) (want : Bool) (A B C : Prop) : Prop := match v with
  | .d (.c (.bool b)) => (b = want → A) ∧ (b = !want → B)
  | .tup [] => C
  | _ => False
def opW (P : Program) (o : AOper) (s : St) (K : St → Prop) : Prop := match o.guard with
  | none => runW P o s K
  | some (t, want) => grdW (s.tm t) want (runW P o (s.put (some t) (.d (.c (.bool want)))) K) (K ((s.put (some t) (.d (.c (.bool !want)))).put o.dst (.tup []))) (K (s.put o.dst (.tup [])))
def opsW (P : Program) : List AOper → St → (St → Prop) → Prop
  | [], s, K => K s
  | o :: os, s, K => opW P o s fun s => opsW P os s K

def dstOk (nt : Nat) : Option Nat → Bool
  | some t => decide (t < nt)
  | none => true
def grdO (nt : Nat) (ops : Array Oper) (o : Oper) (ins : Ins) : Option AOper := match o.guard with
  | none => some ⟨o.dst, ins, none⟩
  | some (j, want) => match (ops[j]?).bind (·.dst) with
    | some t => if t < nt then some ⟨o.dst, ins, some (t, want)⟩ else none
    | none => none
/-- one operation of a region -/
def cmpO (P : Program) (own : List Nat) (nt : Nat) (ops : Array Oper) (i : Nat) : Option AOper := match ops[i]? with
  | none => none
  | some o => match cmpX P own o with
    | none => none
    | some ins => if dstOk nt o.dst = true then grdO nt ops o ins else none

section
variable {P : Program} {c : Cx} {Z Z' : Nat → Prop} {M : Nat → Option Nat} {s : St} {a : Act} {w w' : World}

/-- a value's slot told again -/
theorem Rep.again (R : Rep c Z M s a w) {t : Nat} (ht : t < c.nt) {v : AV} (h : AR Z M w v (a.tmps.getD t undef)) : Rep c Z M (s.put (some t) v) a w := by
  refine ⟨R.size, R.defers, fun t' => ?_, R.ob, R.dead, R.inj, R.own, R.zlt, R.zold, R.zsub, R.fr, R.fix, R.ntl, R.m0, R.rm⟩
  simp only [St.put]
  by_cases h' : t' = t
  · subst h'; rw [if_pos rfl]; exact h
  · rw [if_neg h']; exact R.tm t'
theorem Rep.forget (R : Rep c Z M s a w) {d : Option Nat} (hd : ∀ t, d = some t → t < c.nt) : Rep c Z M (s.put d (.tup [])) (a.put d undef) w := R.put hd (by unfold AR; exact ⟨[], rfl, by unfold ARt; rfl⟩)
theorem grd_sound (R : Rep c Z M s a w) {t : Nat} {want : Bool} {A B C : Prop} (h : grdW (s.tm t) want A B C) : (∃ b, a.tmps.getD t undef = .bool b ∧ (b = want → A) ∧ (b = !want → B)) ∨ (a.tmps.getD t undef = undef ∧ C) := by
  have hv := R.tm t
  unfold grdW at h
  split at h
  · rename_i b e
    rw [e] at hv
    exact .inl ⟨b, hv.c_.1, h⟩
  · rename_i e
    rw [e] at hv
    unfold AR at hv
    obtain ⟨xs, hx, hv⟩ := hv
    unfold ARt at hv
    subst hv
    exact .inr ⟨hx, h⟩
  · exact h.elim

/-- what an operation of a region comes to: a value (in whatever later world), or a step -/
theorem opW_sound (R : Rep c Z M s a w) {own : List Nat} {ops : Array Oper} {i : Nat} {ao : AOper} (hc : cmpO P own c.nt ops i = some ao) {K : St → Prop} (h : opW P ao s K) :
    ∃ o, ops[i]? = some o ∧ o.dst = ao.dst ∧
      ((∃ s1, Rep c Z M s1 a w ∧ Region.wanted o (yielded ops a.tmps) = true ∧ cmpX P own o = some ao.ins ∧ runW P ao s1 K) ∨
       (∃ s1, Rep c Z M s1 a w ∧ Region.wanted o (yielded ops a.tmps) = false ∧ K (s1.put o.dst (.tup [])))) ∧ ∀ t, o.dst = some t → t < c.nt := by
  unfold cmpO at hc
  cases ho : ops[i]? with
  | none => simp [ho] at hc
  | some o =>
    simp only [ho] at hc
    cases hcm : cmpX P own o with
    | none => simp [hcm] at hc
    | some ins =>
      simp only [hcm] at hc
      split at hc
      · rename_i hdst
        have hd : ∀ t, o.dst = some t → t < c.nt := fun t ht => by rw [ht] at hdst; simpa [dstOk] using hdst
        unfold grdO at hc
        split at hc
        · rename_i hg
          simp only [Option.some.injEq] at hc
          subst hc
          refine ⟨o, rfl, rfl, .inl ⟨s, R, by simp [Region.wanted, hg], hcm, h⟩, hd⟩
        · rename_i j want hg
          split at hc
          · rename_i t hj
            split at hc
            · rename_i htn
              simp only [Option.some.injEq] at hc
              subst hc
              unfold opW at h
              dsimp only at h
              rcases grd_sound R h with ⟨b, hb, h1, h2⟩ | ⟨hb, h2⟩
              rotate_left
              · have hlt : t < a.tmps.size := by rw [R.size]; exact htn
                have hy : yielded ops a.tmps j = none := by
                  have hb' : a.tmps[t]? = some undef := by
                    rw [Array.getElem?_eq_getElem hlt, ← hb]
                    simp [Array.getD, hlt]
                  simp [yielded, hj, hb', undef]
                exact ⟨o, rfl, rfl, .inr ⟨s, R, by simp [Region.wanted, hg, hy], h2⟩, hd⟩
              have hlt : t < a.tmps.size := by rw [R.size]; exact htn
              have hy : yielded ops a.tmps j = some b := by
                have hb' : a.tmps[t]? = some (.bool b) := by
                  rw [Array.getElem?_eq_getElem hlt, ← hb]
                  simp [Array.getD, hlt]
                simp [yielded, hj, hb']
              refine ⟨o, rfl, rfl, ?_, hd⟩
              by_cases hbw : b = want
              · subst hbw
                exact .inl ⟨_, R.again htn (by rw [hb]; exact AR.c_of rfl), by simp [Region.wanted, hg, hy], hcm, h1 rfl⟩
              · have hbw' : b = !want := by cases b <;> cases want <;> simp_all
                subst hbw'
                exact .inr ⟨_, R.again htn (by rw [hb]; exact AR.c_of rfl), by simp [Region.wanted, hg, hy], h2 rfl⟩
            · cases hc
          · cases hc
      · cases hc

/-- one operation, carried out -/
theorem op_sound (R : Rep c Z M s a w) {own : List Nat} {ops : Array Oper} {i : Nat} {ao : AOper} (hc : cmpO P own c.nt ops i = some ao) {K : St → Prop} (h : opW P ao s K) {Kc : Act → World → Prop} {Q : Exit → Act → World → Prop}
    (hk : ∀ Z' M' s' a' w', Rep c Z' M' s' a' w' → K s' → Kc a' w') : wpOp P ops Q i Kc a w := by
  obtain ⟨o, ho, hdst, h, hd⟩ := opW_sound R hc h
  unfold wpOp
  simp only [ho]
  rcases h with ⟨s1, R1, hw, hcm, h⟩ | ⟨s1, R1, hw, h⟩
  · rw [if_pos hw]
    refine .inl ?_
    unfold runW at h
    split at h
    · rename_i htk
      rcases cmpX_spec hcm with ⟨_, hcm⟩ | ⟨hm, _⟩
      rotate_left
      · rw [Ins.take_M hm] at htk; cases htk
      obtain ⟨v, x, h1, h2, h3⟩ := tk_sound R1 hcm h
      refine wp_value (h1 w (R1.agr (Below.refl _ _))) (hk _ _ _ _ _ (R1.put hd h2) ?_)
      rw [hdst]; exact h3
    · rw [← hdst] at h
      rcases cmpX_spec hcm with ⟨hm, hcm⟩ | ⟨hm, cl, hop, hi⟩
      · rw [if_neg (by simp [hm])] at h
        exact do_sound R1 hcm hd h fun Z' M' s' a' w' R' _ _ _ _ h' => hk _ _ _ _ _ R' h'
      · rw [if_pos hm] at h
        exact m_sound R1 hop hi hd h fun Z' M' s' a' w' ns R' _ _ _ h' => hk _ _ _ _ _ R' h'
  · rw [if_neg (by simp [hw])]
    exact hk _ _ _ _ _ (R1.forget hd) h

/-- a region in the text's order -/
theorem ops_sound {own : List Nat} {ops : Array Oper} {Q : Exit → Act → World → Prop} : ∀ (l : List Nat) (aos : List AOper), l.mapM (cmpO P own c.nt ops) = some aos → ∀ {Z : Nat → Prop} {M : Nat → Option Nat} {s : St} {a : Act} {w : World}, Rep c Z M s a w → ∀ {K : St → Prop}, opsW P aos s K →
    (∀ Z' M' s' a' w', Rep c Z' M' s' a' w' → K s' → Q .normal a' w') → wpOps P ops Q l a w
  | [], aos, hm, Z, M, s, a, w, R, K, h, hk => by
    simp at hm; subst hm
    exact hk _ _ _ _ _ R h
  | i :: l, aos, hm, Z, M, s, a, w, R, K, h, hk => by
    rw [List.mapM_cons] at hm
    cases hc : cmpO P own c.nt ops i with
    | none => simp [hc] at hm
    | some ao =>
      cases hr : l.mapM (cmpO P own c.nt ops) with
      | none => simp [hc, hr] at hm
      | some rest =>
        simp [hc, hr] at hm
        subst hm
        rw [wpOps_cons]
        exact op_sound R hc h fun Z' M' s' a' w' R' h' => ops_sound l rest hr R' h' hk

/-! ### orders that are open -/
/-- an operation of a region whose order is open: 'early' if one that writes may come up ahead of it; then it reads none but the objects of 'prot', which those that write do not touch -/
def runD (P : Program) (prot : List Nat) (o : AOper) (early : Bool) (s : St) (K : St → Prop) : Prop := if o.ins.take = true then (early = true → ∀ n, n ∈ rdI o.ins s → n ∈ prot) ∧ tk o.ins s fun v => K (s.put o.dst v) else if o.ins.isM = true then mW P prot o.ins o.dst s K else (∀ n, n ∈ o.ins.tch s → n ∉ prot) ∧ doW P o.ins o.dst s K
def opD (P : Program) (prot : List Nat) (o : AOper) (early : Bool) (s : St) (K : St → Prop) : Prop := match o.guard with
  | none => runD P prot o early s K
  | some (t, want) => grdW (s.tm t) want (runD P prot o early (s.put (some t) (.d (.c (.bool want)))) K) (K ((s.put (some t) (.d (.c (.bool !want)))).put o.dst (.tup []))) (K (s.put o.dst (.tup [])))
def opsD (P : Program) : List (AOper × Bool × List Nat) → St → (St → Prop) → Prop
  | [], s, K => K s
  | (o, early, prot) :: os, s, K => opD P prot o early s fun s => opsD P os s K

theorem opD_sound (R : Rep c Z M s a w) {own prot : List Nat} {ops : Array Oper} {i : Nat} {ao : AOper} {early : Bool} (hc : cmpO P own c.nt ops i = some ao) {K : St → Prop} (h : opD P prot ao early s K) :
    ∃ o, ops[i]? = some o ∧ o.dst = ao.dst ∧
      ((∃ s1, Rep c Z M s1 a w ∧ Region.wanted o (yielded ops a.tmps) = true ∧ cmpX P own o = some ao.ins ∧ runD P prot ao early s1 K) ∨
       (∃ s1, Rep c Z M s1 a w ∧ Region.wanted o (yielded ops a.tmps) = false ∧ K (s1.put o.dst (.tup [])))) ∧ ∀ t, o.dst = some t → t < c.nt := by
  unfold cmpO at hc
  cases ho : ops[i]? with
  | none => simp [ho] at hc
  | some o =>
    simp only [ho] at hc
    cases hcm : cmpX P own o with
    | none => simp [hcm] at hc
    | some ins =>
      simp only [hcm] at hc
      split at hc
      · rename_i hdst
        have hd : ∀ t, o.dst = some t → t < c.nt := fun t ht => by rw [ht] at hdst; simpa [dstOk] using hdst
        unfold grdO at hc
        split at hc
        · rename_i hg
          simp only [Option.some.injEq] at hc
          subst hc
          refine ⟨o, rfl, rfl, .inl ⟨s, R, by simp [Region.wanted, hg], hcm, h⟩, hd⟩
        · rename_i j want hg
          split at hc
          · rename_i t hj
            split at hc
            · rename_i htn
              simp only [Option.some.injEq] at hc
              subst hc
              unfold opD at h
              dsimp only at h
              rcases grd_sound R h with ⟨b, hb, h1, h2⟩ | ⟨hb, h2⟩
              rotate_left
              · have hlt : t < a.tmps.size := by rw [R.size]; exact htn
                have hy : yielded ops a.tmps j = none := by
                  have hb' : a.tmps[t]? = some undef := by
                    rw [Array.getElem?_eq_getElem hlt, ← hb]
                    simp [Array.getD, hlt]
                  simp [yielded, hj, hb', undef]
                exact ⟨o, rfl, rfl, .inr ⟨s, R, by simp [Region.wanted, hg, hy], h2⟩, hd⟩
              have hlt : t < a.tmps.size := by rw [R.size]; exact htn
              have hy : yielded ops a.tmps j = some b := by
                have hb' : a.tmps[t]? = some (.bool b) := by
                  rw [Array.getElem?_eq_getElem hlt, ← hb]
                  simp [Array.getD, hlt]
                simp [yielded, hj, hb']
              refine ⟨o, rfl, rfl, ?_, hd⟩
              by_cases hbw : b = want
              · subst hbw
                exact .inl ⟨_, R.again htn (by rw [hb]; exact AR.c_of rfl), by simp [Region.wanted, hg, hy], hcm, h1 rfl⟩
              · have hbw' : b = !want := by cases b <;> cases want <;> simp_all
                subst hbw'
                exact .inr ⟨_, R.again htn (by rw [hb]; exact AR.c_of rfl), by simp [Region.wanted, hg, hy], h2 rfl⟩
            · cases hc
          · cases hc
      · cases hc

/-- blocks that nobody writes in a region: Z's, and those of the objects of prot -/
def Rn (Z : Nat → Prop) (M : Nat → Option Nat) (prot : List Nat) (b : Nat) : Prop := Z b ∨ ∃ n, n ∈ prot ∧ M n = some b
def Pres (Rd : Nat → Prop) (w w' : World) : Prop := ∀ b, Rd b → w'.heap[b]? = w.heap[b]?
theorem Pres.below (R : Rep c Z M s a w) {prot : List Nat} (h : Below w.heap.size w w') : Pres (Rn Z M prot) w w' := fun b hb => by
  rcases hb with hb | ⟨n, _, hb⟩
  · exact h.block b (R.zlt b hb)
  · exact h.block b (R.mlt hb)
theorem Pres.eff (R : Rep c Z M s a w) {M' : Nat → Option Nat} {prot ns : List Nat} (h : Eff ns Z M M' w w') (hp : ∀ n, n ∈ ns → n ∉ prot) : Pres (Rn Z M prot) w w' := fun b hb => by
  obtain ⟨_, g⟩ := h
  have hlt : b < w.heap.size := by
    rcases hb with hb | ⟨n, _, hb⟩
    · exact R.zlt b hb
    · exact R.mlt hb
  refine g.block b hlt ?_
  rintro ⟨hz, m, hm, hMm⟩
  have live : ∀ k, M k = some b → s.live k := fun k hk => by
    cases ho : s.hp k with
    | none => rw [R.dead k ho] at hk; cases hk
    | some o =>
      cases hl : o.live with
      | true => exact ⟨o, ho, hl⟩
      | false => exact absurd ((R.ob k o ho).ice hl hk) hz
  rcases hb with hb | ⟨n, hn, hMn⟩
  · exact hz hb
  · exact hp m hm (R.inj m n b (live m hMm) (live n hMn) hMm hMn ▸ hn)

def wpAnyR (P : Program) (ops : Array Oper) (Q : Exit → Act → World → Prop) (bad : Nat → Bool) : Nat → (Nat → Nat → Prop) → Array Bool → Act → World → Prop
  | 0, _, listed, a, w => Region.ready .any ops listed = [] ∧ Q .normal a w
  | fuel + 1, Rd, listed, a, w => (Region.ready .any ops listed = [] → Q .normal a w) ∧
    ∀ i ∈ Region.ready .any ops listed, wpOp P ops Q i (fun a' w' => Pres (Rd i) w w' ∧ (bad i = false → Below w.heap.size w w') ∧ ∃ Rd', (∀ j b, Rd j b → Rd' j b) ∧ wpAnyR P ops Q bad fuel Rd' (listed.setIfInBounds i true) a' w') a w
variable {ops : Array Oper} {Q : Exit → Act → World → Prop} {bad : Nat → Bool}
theorem wpAny_of_R : ∀ (fuel : Nat) (Rd : Nat → Nat → Prop) (listed : Array Bool) (a : Act) (w : World), wpAnyR P ops Q bad fuel Rd listed a w → wpAny P .any ops Q fuel listed a w
  | 0, _, _, _, _, h => h
  | fuel + 1, _, _, _, _, h => ⟨h.1, fun i hi => wpOp_mono (fun a' w' h' => by obtain ⟨_, _, Rd', _, h'⟩ := h'; exact wpAny_of_R fuel Rd' _ a' w' h') (h.2 i hi)⟩

/-- those that wait for i, one behind the other -/
def waiters (ops : Array Oper) (i : Nat) : List Nat := (List.range ops.size).foldl (fun T j => if (match ops[j]? with | some o => o.after.any fun e => Region.binds .any e && (e.on == i || T.contains e.on) | none => false) = true then j :: T else T) []
/-- T are such that each waits for i or for another one of T; none of them has come up -/
def closedT (ops : Array Oper) (listed : Array Bool) (i : Nat) (T : List Nat) : Bool :=
  T.all fun j => !listed.getD j true && j != i && match ops[j]? with | some o => o.after.any fun e => Region.binds .any e && (e.on == i || T.contains e.on) | none => false
theorem not_ready_of_closed {i : Nat} {listed : Array Bool} {T : List Nat} (hi : listed.getD i true = false) (hT : ∀ j ∈ T, listed.getD j true = false ∧ ∃ o, ops[j]? = some o ∧ ∃ e ∈ o.after, Region.binds .any e = true ∧ (e.on = i ∨ e.on ∈ T)) {j : Nat} (hj : j ∈ T) : j ∉ Region.ready .any ops listed := by
  intro hr
  obtain ⟨_, o, ho, hall⟩ := mem_ready.1 hr
  obtain ⟨_, o', ho', e, he, hb, hon⟩ := hT j hj
  rw [ho] at ho'; cases ho'
  have h1 := hall e he hb
  have h0 : listed.getD e.on true = false := by
    rcases hon with h | h
    · rw [h]; exact hi
    · exact (hT _ h).1
  rcases Nat.lt_or_ge e.on listed.size with h' | h'
  · simp [h'] at h0 h1; rw [h0] at h1; cases h1
  · simp [Array.getElem?_eq_none h'] at h1

def Sx (early : Bool) (Rd : Nat → Prop) (w w' : World) : Prop := match early with
  | true => Pres Rd w w'
  | false => Below w.heap.size w w'
theorem Sx.refl (early : Bool) (Rd : Nat → Prop) (w : World) : Sx early Rd w w := by
  cases early
  · exact Below.refl _ _
  · exact fun _ _ => rfl
theorem wpAnyR_first {i : Nat} {oi : Oper} {v : Value} {T : List Nat} {early : Bool} {RdI : Nat → Prop} (hi : ops[i]? = some oi) (hsel : ∀ (j : Nat) (o : Oper) cs b, ops[j]? = some o → o.op ≠ .select cs b)
    (hQ : ∀ c a w, Q (.panic c) (a.put oi.dst v) w → Q (.panic c) a w)
    (hT : ∀ j ∈ T, j ≠ i ∧ ∃ o, ops[j]? = some o ∧ ∃ e ∈ o.after, Region.binds .any e = true ∧ (e.on = i ∨ e.on ∈ T)) :
    ∀ (fuel : Nat) (Rd : Nat → Nat → Prop) (listed : Array Bool) (a : Act) (w : World),
      (∀ j oj, ops[j]? = some oj → j ≠ i → listed.getD j true = false → (∀ e ∈ oj.after, Region.binds .any e = true → e.on ≠ i) → oi.apart ops oj = true) →
      (∀ j ∈ T, listed.getD j true = false) → (early = false → ∀ j, bad j = true → listed.getD j true = false → j ∈ T) → (early = true → ∀ j, listed.getD j true = false → j ≠ i → j ∉ T → ∀ b, RdI b → Rd j b) →
      i ∈ Region.ready .any ops listed → YieldsIf P ops (Sx early RdI w) oi v a →
      (∃ Rd', (∀ j b, Rd j b → Rd' j b) ∧ wpAnyR P ops Q bad fuel Rd' (listed.setIfInBounds i true) (a.put oi.dst v) w) → wpAnyR P ops Q bad (fuel + 1) Rd listed a w := by
  intro fuel
  induction fuel with
  | zero =>
    rintro Rd listed a w _ _ _ _ hr hy ⟨Rd', hRd, H⟩
    refine ⟨fun h => (by rw [h] at hr; cases hr), fun j hj => ?_⟩
    by_cases hji : j = i
    · subst hji; exact hy.wpOp hi (Sx.refl _ _ _) ⟨fun _ _ => rfl, fun _ => Below.refl _ _, Rd', hRd, H⟩
    · have := ready_mono hj hji
      rw [H.1] at this
      cases this
  | succ fuel ih =>
    rintro Rd listed a w hfree hTu hbad hRI hr hy ⟨Rd', hRd, H⟩
    refine ⟨fun h => (by rw [h] at hr; cases hr), fun j hj => ?_⟩
    by_cases hji : j = i
    · subst hji; exact hy.wpOp hi (Sx.refl _ _ _) ⟨fun _ _ => rfl, fun _ => Below.refl _ _, Rd', hRd, H⟩
    · have hiu := (mem_ready.1 hr).1
      have hjT : j ∉ T := fun h => not_ready_of_closed hiu (fun k hk => ⟨hTu k hk, (hT k hk).2⟩) h hj
      have h1 := H.2 j (ready_mono hj hji)
      obtain ⟨hjun, oj, hoj, hall⟩ := mem_ready.1 hj
      have hnot : ∀ e ∈ oj.after, Region.binds .any e = true → e.on ≠ i := fun e he hb heq => by
        have h1 := hall e he hb
        have h0 := (mem_ready.1 hr).1
        rw [heq] at h1
        rcases Nat.lt_or_ge i listed.size with h' | h'
        · simp [h'] at h0 h1; rw [h0] at h1; cases h1
        · simp [Array.getElem?_eq_none h'] at h1
      have h2 := wpOp_putIf hoj (hfree j oj hoj hji hjun hnot) (fun cs b => hsel i oi cs b hi) (fun cs b => hsel j oj cs b hoj) hQ hy h1
      have hset : ∀ k, k ≠ j → (listed.setIfInBounds j true).getD k true = listed.getD k true := fun k hk => getD_set_ne true (Ne.symm hk)
      have hfree' : ∀ k ok, ops[k]? = some ok → k ≠ i → (listed.setIfInBounds j true).getD k true = false →
          (∀ e ∈ ok.after, Region.binds .any e = true → e.on ≠ i) → oi.apart ops ok = true := fun k ok hk hki hun hno => by
        refine hfree k ok hk hki ?_ hno
        by_cases hjk : j = k
        · subst hjk; exact hjun
        · rw [getD_set_ne true hjk] at hun; exact hun
      refine wpOp_mono (fun a' w' h3 => ?_) h2
      obtain ⟨hy', hpr, hbl, Rd2, hRd2, h4⟩ := h3
      refine ⟨fun b hb => hpr b (hRd j b hb), hbl, Rd, fun _ _ h => h, ih Rd (listed.setIfInBounds j true) a' w' hfree' (fun k hk => ?_) (fun he k hk hu => ?_) (fun he k hu hki hkT => hRI he k ?_ hki hkT) (ready_mono hr (Ne.symm hji)) ?_ ⟨Rd2, fun k b hb => hRd2 k b (hRd k b hb), ?_⟩⟩
      · rw [hset k (fun e => hjT (e ▸ hk))]; exact hTu k hk
      · refine hbad he k hk ?_
        by_cases hkj : k = j
        · subst hkj; exact hjun
        · rwa [hset k hkj] at hu
      · by_cases hkj : k = j
        · subst hkj; exact hjun
        · rwa [hset k hkj] at hu
      · refine hy'.imp (fun ⟨x, y⟩ => ⟨x, fun w2 hw2 => y w2 ?_⟩) id
        cases early with
        | true => exact fun b hb => (hw2 b hb).trans (hpr b (hRd j b (hRI rfl j hjun hji hjT b hb)))
        | false =>
          have hjb : bad j = false := by
            cases hb : bad j with
            | false => rfl
            | true => exact absurd (hbad rfl j hb (mem_ready.1 hj).1) hjT
          have hbl := hbl hjb
          exact hbl.trans (hw2.mono hbl.size)
      · rw [Array.setIfInBounds_comm _ _ hji]
        exact h4
theorem wpAnyR_step {i : Nat} {fuel : Nat} {Rd : Nat → Nat → Prop} {listed : Array Bool} (hr : Region.ready .any ops listed = [i])
    (h : wpOp P ops Q i (fun a' w' => Pres (Rd i) w w' ∧ (bad i = false → Below w.heap.size w w') ∧ ∃ Rd', (∀ j b, Rd j b → Rd' j b) ∧ wpAnyR P ops Q bad fuel Rd' (listed.setIfInBounds i true) a' w') a w) : wpAnyR P ops Q bad (fuel + 1) Rd listed a w := by
  refine ⟨fun h0 => (by rw [hr] at h0; cases h0), fun j hj => ?_⟩
  rw [hr, List.mem_singleton] at hj
  subst hj
  exact h
end
end Go.Eng

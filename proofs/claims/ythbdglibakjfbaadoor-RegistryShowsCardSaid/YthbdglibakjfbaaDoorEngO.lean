/- How a function on data is shown to give what it is told to give: 'Giv.of', 'GivO.of'; what a call's contract says in the words of Go's own calls: 'Giv.calls'. No condition but that the program draws its orders. -/
import Derived.Test.YthbdglibakjfbaaDoorEngN
set_option linter.unusedSectionVars false
namespace Go.Eng
open Go.RowKit
variable [Inhabited Lo]

/-- a function, as a walk has it -/
structure AFn where
  nt : Nat
  body : ACode
  res : List (Nat × Option (Option Nat))
def resT (P : Program) : List ResultVar → Option (List (Nat × Option (Option Nat)))
  | [] => some []
  | .tmp t :: rs => (resT P rs).map ((t, none) :: ·)
  | .cell ad t :: rs => match partOf P t with
    | some none => (resT P rs).map ((ad, some none) :: ·)
    | some (some n) => if sizeT P t = some n then (resT P rs).map ((ad, some (some n)) :: ·) else none
    | none => none
def cmpF (P : Program) (own unprot : List Nat) (f : FuncId) : Option AFn := match P.funcs[f]? with
  | none => none
  | some fn => match fn.body, resT P fn.results.toList with
    | some cd, some rs => match cmpC P own ((boxes cd ++ own.filter fun n => decide (1000000 ≤ n ∧ n < 3000000)).filter fun n => !unprot.contains n) fn.ntmps cd with
      | some ac => if (!(fn.name == "runtime.NumGoroutine") && decide (fn.ntmps ≤ 1000000)) = true then some ⟨fn.ntmps, ac, rs⟩ else none
      | none => none
    | _, _ => none
def St.init (ds : List D) : St := { tm := fun t => (ds.map AV.d).getD t .any, hp := fun _ => none }
def retV : List D → AV
  | [x] => .d x
  | xs => .tup (xs.map .d)
def retVA : List AV → AV
  | [x] => x
  | xs => .tup xs
/-- the results' values -/
def resV : List (Nat × Option (Option Nat)) → St → (List AV → Prop) → Prop
  | [], _, K => K []
  | (t, none) :: l, s, K => resV l s fun vs => K (s.tm t :: vs)
  | (t, some none) :: l, s, K => ldW s (s.tm t) fun v => resV l s fun vs => K (v :: vs)
  | (t, some (some n)) :: l, s, K => ldnW s n (s.tm t) fun v => resV l s fun vs => K (v :: vs)
def retQ (rs : List (Nat × Option (Option Nat))) (Post : List D → Prop) : Exit → St → Prop := fun e s => match e with
  | .normal => resV rs s fun vs => frzL vs s fun _ ds => Post ds
  | .ret => resV rs s fun vs => frzL vs s fun _ ds => Post ds
  | _ => False
def ownR (Post : AV → Ob → Prop) (s : St) (vs : List AV) : Prop := (∃ n r o, n < 1000000 ∧ retVA vs = AV.ren n r ∧ s.hp n = some (Ob.ren n o) ∧ Ob.live o = true ∧ Post r o) ∨ ∃ es, 0 < es ∧ retVA vs = .d (.c (.slice none 0 0)) ∧ Post (.sl 0 es 0 0) (.row es [])
def retO (rs : List (Nat × Option (Option Nat))) (Post : AV → Ob → Prop) : Exit → St → Prop := fun e s => match e with
  | .normal => resV rs s fun vs => ownR Post s vs
  | .ret => resV rs s fun vs => ownR Post s vs
  | _ => False
/-! nil may be told as an empty slice -/
mutual
inductive leE : D → D → Prop
  | refl (x : D) : leE x x
  | nil (es : Nat) : leE (.c (.slice none 0 0)) (.lst es [])
  | agg {cs cs' : List D} : leD cs cs' → leE (.agg cs) (.agg cs')
inductive leD : List D → List D → Prop
  | nil : leD [] []
  | cons {x y : D} {xs ys : List D} : leE x y → leD xs ys → leD (x :: xs) (y :: ys)
end
theorem leD_refl : ∀ ds, leD ds ds
  | [] => .nil
  | _ :: xs => .cons (.refl _) (leD_refl xs)
theorem leD_of {ds out : List D} (h : ds = out) : leD ds out := h ▸ leD_refl ds
def retVal : List Value → Value
  | [x] => x
  | xs => .tuple xs.toArray

section
variable {P : Program} {c : Cx} {Z Z' : Nat → Prop} {M : Nat → Option Nat} {s : St} {a : Act} {w w' : World}
theorem DRt_AR : ∀ {ds : List D} {vs : List Value}, DRt Z w ds vs → ∀ t, AR Z M w ((ds.map AV.d).getD t .any) (vs.getD t undef)
  | [], vs, h, t => by simp only [List.map_nil, List.getD_nil]; unfold AR; trivial
  | d :: ds, vs, h, 0 => by
    unfold DRt at h
    obtain ⟨v, vs', rfl, h1, _⟩ := h
    simp only [List.map_cons, List.getD_cons_zero]
    unfold AR; exact h1
  | d :: ds, vs, h, t + 1 => by
    unfold DRt at h
    obtain ⟨v, vs', rfl, _, h⟩ := h
    simp only [List.map_cons, List.getD_cons_succ]
    exact DRt_AR h t
theorem retV_AR : ∀ {ds : List D} {vs : List Value}, DRt Z w ds vs → AR Z M w (retV ds) (retVal vs)
  | [], vs, h => by
    unfold DRt at h
    subst h
    simp only [retV, retVal, List.map_nil]
    unfold AR
    exact ⟨[], rfl, by unfold ARt; rfl⟩
  | [d], vs, h => by
    unfold DRt at h
    obtain ⟨v, vs', rfl, h1, h2⟩ := h
    unfold DRt at h2
    subst h2
    simp only [retV, retVal]
    unfold AR; exact h1
  | d :: e :: ds, vs, h => by
    have this : ∀ (ds : List D) (vs : List Value), DRt Z w ds vs → ARt Z M w (ds.map .d) vs := by
      intro ds
      induction ds with
      | nil => intro vs h; unfold DRt at h; subst h; simp only [List.map_nil]; unfold ARt; rfl
      | cons d ds ih =>
        intro vs h
        unfold DRt at h
        obtain ⟨v, vs', rfl, h1, h2⟩ := h
        simp only [List.map_cons]
        unfold ARt
        exact ⟨v, vs', rfl, by unfold AR; exact h1, ih vs' h2⟩
    have hl := h.len
    match vs with
    | [] => simp at hl
    | [_] => simp at hl
    | x :: y :: vs =>
      simp only [retV, retVal]
      unfold AR
      exact ⟨_, rfl, this _ _ h⟩
mutual
theorem leE_DR : ∀ {x y : D} {v : Value}, leE x y → DR Z w x v → DR Z w y v
  | _, _, _, .refl _, h => h
  | _, _, _, .nil es, h => by
    unfold DR at h ⊢
    exact ⟨none, 0, h.1, Nat.le_refl _, Nat.zero_le _, fun hn => absurd rfl hn⟩
  | _, _, _, .agg hc, h => by
    unfold DR at h ⊢
    obtain ⟨xs, h1, h2⟩ := h
    exact ⟨xs, h1, leD_DRs hc h2⟩
theorem leD_DRs : ∀ {cs cs' : List D} {xs : List Value}, leD cs cs' → DRs Z w cs xs → DRs Z w cs' xs
  | _, _, _, .nil, h => h
  | _, _, _, .cons h1 h2, k => by
    unfold DRs at k ⊢
    obtain ⟨v, vs, h3, h4, h5, h6⟩ := k
    exact ⟨v, vs, h3, h4, leE_DR h1 h5, leD_DRs h2 h6⟩
end
theorem leD_DRt : ∀ {ds out : List D} {xs : List Value}, leD ds out → DRt Z w ds xs → DRt Z w out xs
  | _, _, _, .nil, h => h
  | _, _, _, .cons h1 h2, k => by
    unfold DRt at k ⊢
    obtain ⟨v, vs, h3, h5, h6⟩ := k
    exact ⟨v, vs, h3, leE_DR h1 h5, leD_DRt h2 h6⟩
theorem Giv.le {f : FuncId} {ds ds' : List D} {r : AV} (h : leD ds ds') (g : Giv P f ds' r) : Giv P f ds r := by
  unfold Giv at g ⊢
  rcases g with ⟨h1, h2⟩ | h2
  · exact .inl ⟨h1, fun Z w vs hz ht hv => h2 Z w vs hz ht (leD_DRt h hv)⟩
  · exact .inr fun Z w vs hv => h2 Z w vs (leD_DRt h hv)
theorem retVA_AR {vs : List AV} {xs : List Value} (h : ARt Z M w vs xs) : AR Z M w (retVA vs) (retVal xs) := by
  match vs, xs, h with
  | [], xs, h =>
    unfold ARt at h; subst h
    simp only [retVA, retVal]
    unfold AR
    exact ⟨[], rfl, by unfold ARt; rfl⟩
  | [v], xs, h =>
    unfold ARt at h
    obtain ⟨x, xs', rfl, h1, h2⟩ := h
    unfold ARt at h2; subst h2
    exact h1
  | v :: u :: vs, xs, h =>
    have h' := h
    unfold ARt at h
    obtain ⟨x, xs', rfl, h1, h2⟩ := h
    unfold ARt at h2
    obtain ⟨y, ys, rfl, _, _⟩ := h2
    simp only [retVA, retVal]
    unfold AR
    exact ⟨_, rfl, h'⟩
theorem frzL_soundT : ∀ (vs : List AV) {s : St} {Z : Nat → Prop} (_ : Rep c Z M s a w) {xs : List Value} (_ : ARt Z M w vs xs) {K : St → List D → Prop} (_ : frzL vs s K),
    ∃ Z' s' ds, (∀ b, Z b → Z' b) ∧ Rep c Z' M s' a w ∧ DRt Z' w ds xs ∧ K s' ds
  | [], s, Z, R, xs, hv, K, h => by
    unfold frzL at h; unfold ARt at hv
    exact ⟨Z, s, [], fun _ h => h, R, by unfold DRt; exact hv, h⟩
  | v :: vs, s, Z, R, xs, hv, K, h => by
    unfold frzL at h; unfold ARt at hv
    obtain ⟨x, xs', rfl, h2, h3⟩ := hv
    obtain ⟨Z1, s1, d, k1, k2, k3, k4, k5⟩ := frzW_sound v R h2 h
    have hkeep : ARt Z1 M w vs xs' := by
      have := ARt.kill (n := none) (stays_z k1) vs xs' h3
      rwa [AV.killL_none] at this
    obtain ⟨Z2, s2, ds, l1, l2, l3, l5⟩ := frzL_soundT vs k2 hkeep k5
    refine ⟨Z2, s2, d :: ds, fun b hb => l1 b (k1 b hb), l2, ?_, l5⟩
    unfold DRt
    exact ⟨x, xs', rfl, DR.keep ⟨l1, fun _ _ _ => rfl⟩ d x k3, l3⟩

theorem loadAt_asAddr {t : TypeId} {x y : Value} (h : (Instr.loadAt t x).run P w = .ok y w) : (do loadVar t (← asAddr x) : Sem Value).run P w = .ok y w := by
  cases x with
  | pointer ad =>
    cases ad with
    | none => simp [Instr.loadAt, Instr.sureAddr] at h
    | some ad => simpa [Instr.loadAt, Instr.sureAddr, asAddr] using h
  | _ => simp [Instr.loadAt, Instr.sureAddr] at h
theorem resV_sound (R : Rep c Z M s a w) : ∀ (rv : List ResultVar) (rs : List (Nat × Option (Option Nat))), resT P rv = some rs → ∀ {K : List AV → Prop}, resV rs s K → ∃ vs xs, K vs ∧ ARt Z M w vs xs ∧ (rv.mapM (m := Sem) fun
    | .tmp t => pure (a.tmps.getD t undef)
    | .cell ad t => do loadVar t (← asAddr (a.tmps.getD ad undef))).run P w = .ok xs w
  | [], rs, h, K, hk => by
    simp [resT] at h; subst h
    exact ⟨[], [], hk, by unfold ARt; rfl, by simp⟩
  | .tmp t :: rv, rs, h, K, hk => by
    simp only [resT] at h
    cases h' : resT P rv with
    | none => simp [h'] at h
    | some rs' =>
      simp only [h', Option.map_some, Option.some.injEq] at h
      subst h
      obtain ⟨vs, xs, h1, h2, h3⟩ := resV_sound R rv rs' h' hk
      refine ⟨_, a.tmps.getD t undef :: xs, h1, by unfold ARt; exact ⟨_, xs, rfl, R.tm t, h2⟩, ?_⟩
      rw [List.mapM_cons]
      simp only [Sem.run_bind, Sem.run_pure, Result.andThen_ok, h3]
  | .cell ad t :: rv, rs, h, K, hk => by
    simp only [resT] at h
    split at h
    · rename_i hp
      cases h' : resT P rv with
      | none => simp [h'] at h
      | some rs' =>
        simp only [h', Option.map_some, Option.some.injEq] at h
        subst h
        obtain ⟨u, y, k1, k2, k3⟩ := ld_sound (P := P) R hp (R.tm ad) hk
        obtain ⟨vs, xs, h1, h2, h3⟩ := resV_sound R rv rs' h' k3
        refine ⟨_, y :: xs, h1, by unfold ARt; exact ⟨_, xs, rfl, k2, h2⟩, ?_⟩
        have := loadAt_asAddr (k1 w (R.agr (Below.refl _ _)))
        rw [List.mapM_cons]
        simp only [Sem.run_bind] at this
        simp only [Sem.run_bind, Sem.run_pure, this, Result.andThen_ok, h3]
    · rename_i n hp
      split at h
      · rename_i hn
        cases h' : resT P rv with
        | none => simp [h'] at h
        | some rs' =>
          simp only [h', Option.map_some, Option.some.injEq] at h
          subst h
          obtain ⟨u, y, k1, k2, k3⟩ := ldn_sound (P := P) R hp hn (R.tm ad) hk
          obtain ⟨vs, xs, h1, h2, h3⟩ := resV_sound R rv rs' h' k3
          refine ⟨_, y :: xs, h1, by unfold ARt; exact ⟨_, xs, rfl, k2, h2⟩, ?_⟩
          have := loadAt_asAddr (k1 w (R.agr (Below.refl _ _)))
          rw [List.mapM_cons]
          simp only [Sem.run_bind] at this
          simp only [Sem.run_bind, Sem.run_pure, this, Result.andThen_ok, h3]
      · cases h
    · cases h
theorem retVal_eq (vs : List Value) : (if h : vs.toArray.size = 1 then vs.toArray[0] else Value.tuple vs.toArray) = retVal vs := by
  match vs with
  | [] => simp [retVal]
  | [x] => simp [retVal]
  | x :: y :: vs => simp [retVal]
theorem results_run {fn : Func} {xs : List Value} (hm : (fn.results.toList.mapM (m := Sem) fun
    | .tmp t => pure (a.tmps.getD t undef)
    | .cell ad t => do loadVar t (← asAddr (a.tmps.getD ad undef))).run P w = .ok xs w) : (results fn a.tmps).run P w = .ok (retVal xs) w := by
  unfold results
  have e : fn.results = fn.results.toList.toArray := by simp
  rw [e, List.mapM_toArray]
  simp only [← bind_pure_comp, Sem.run_bind, Sem.run_pure]
  refine Eq.trans (congrArg (fun r => (Result.andThen r fun (a : List Value) w' => Result.ok a.toArray w').andThen fun (a : Array Value) w' => Result.ok (if h : a.size = 1 then a[0] else Value.tuple a) w') hm) ?_
  simp only [Result.andThen_ok]
  rw [retVal_eq]

theorem cmpF_spec {own unprot : List Nat} {f : FuncId} {af : AFn} (h : cmpF P own unprot f = some af) : ∃ fn cd prot, P.funcs[f]? = some fn ∧ fn.body = some cd ∧ fn.ntmps = af.nt ∧ resT P fn.results.toList = some af.res ∧ cmpC P own prot af.nt cd = some af.body ∧ hasBody P f = true ∧ af.nt ≤ 1000000 := by
  unfold cmpF at h
  cases hf : P.funcs[f]? with
  | none => simp [hf] at h
  | some fn =>
    simp only [hf] at h
    split at h
    · rename_i cd rs hb hr
      split at h
      · rename_i ac hac
        split at h
        · rename_i hn
          simp only [Option.some.injEq] at h
          subst h
          simp only [Bool.and_eq_true, decide_eq_true_eq] at hn
          exact ⟨fn, cd, _, rfl, hb, rfl, hr, hac, by unfold hasBody; simp only [hf]; simp only [Bool.and_eq_true]; exact ⟨hn.1, by rw [hb]; rfl⟩, hn.2⟩
        · cases h
      · cases h
    · cases h

/-- the context of a call of a function on data -/
def cx (Z : Nat → Prop) (w : World) (nt : Nat) (ht : Tw w) : Cx := ⟨Z, w, nt, fun _ => none, ht, fun _ _ h => by cases h⟩
theorem Rep.init {nt : Nat} {ds : List D} {vs : List Value} (ht : Tw w) (hz : ∀ b, Z b → b < w.heap.size) (hv : DRt Z w ds vs) (hl : ds.length ≤ nt) (hnl : nt ≤ 1000000) :
    Rep (cx Z w nt ht) Z (fun _ => none) (St.init ds) { tmps := vs.toArray ++ Array.replicate (nt - vs.toArray.size) undef, defers := [] } w := by
  have hlen := hv.len
  refine ⟨by simp [cx]; omega, rfl, fun t => ?_, fun n o h => (by cases h), fun _ _ => rfl, fun n m b ⟨o, h, _⟩ => (by cases h), fun n b ⟨o, h, _⟩ => (by cases h), hz, fun b h => .inl h, fun b h => h, Frm.refl _ _, fun _ _ => rfl, hnl, fun _ _ => rfl, fun _ _ h => h⟩
  have := DRt_AR (M := fun _ => none) hv t
  have e : (vs.toArray ++ Array.replicate (nt - vs.toArray.size) undef).getD t undef = vs.getD t undef := by
    simp only [Array.getD_eq_getD_getElem?, Array.getElem?_append, List.size_toArray, List.getElem?_toArray, Array.getElem?_replicate, List.getD]
    split
    · rfl
    · rw [List.getElem?_eq_none (by omega)]
      split <;> rfl
  show AR Z _ w ((ds.map AV.d).getD t .any) _
  rw [e]
  exact this
theorem Rep.done {ht : Tw w} (R : Rep (cx Z w c.nt ht) Z' M s a w') : Done Z w Z' w' := ⟨R.zsub, fun b h => R.zold b h, R.zlt, (R.fr.mono (fun b h => by obtain ⟨n, h⟩ := h; cases h)).below⟩

theorem Giv.of (hm : P.follows .mixedOrders = true) {own unprot : List Nat} {f : FuncId} {af : AFn} (hc : cmpF P own unprot f = some af) {ds out : List D} (hl : ds.length ≤ af.nt) (h : awp P af.body (retQ af.res fun ds => leD ds out) (St.init ds)) : Giv P f ds (retV out) := by
  obtain ⟨fn, cd, prot, hf, hb, hnt, hr, hcc, hh, hnl⟩ := cmpF_spec hc
  refine .inl ⟨hh, fun Z w vs hz ht hv => ?_⟩
  refine calls_of_wp hf hb ?_
  rw [hnt]
  have R := Rep.init (nt := af.nt) ht hz hv hl hnl
  have fin : ∀ Z' M' s' a' w', Rep (cx Z w af.nt ht) Z' M' s' a' w' → (resV af.res s' fun vs => frzL vs s' fun _ ds => leD ds out) →
      a'.defers = [] ∧ ∃ v, (results fn a'.tmps).run P w' = .ok v w' ∧ ∃ v_1 Z', Ending.returned v = .returned v_1 ∧ Done Z w Z' w' ∧ ∀ M, AR Z' M w' (retV out) v_1 := by
    intro Z' M' s' a' w' R' h'
    obtain ⟨vs, xs, h1, h2, h3⟩ := resV_sound (P := P) R' _ _ hr h'
    obtain ⟨Z2, s2, ds2, _, R2, k3, hle⟩ := frzL_soundT _ R' h2 h1
    exact ⟨R'.defers, _, results_run h3, _, Z2, rfl, R2.done (c := cx Z w af.nt ht), fun M => retV_AR (leD_DRt hle k3)⟩
  refine awp_sound (c := cx Z w af.nt ht) hm cd af.body hcc R h (Qc := bodyPost P fn _) (fun e Z' M' s' a' w' R' h' => ?_) (fun ch a w h => ?_)
  · cases e with
    | normal => exact fin _ _ _ _ _ R' h'
    | ret => exact fin _ _ _ _ _ R' h'
    | _ => exact h'.elim
  · obtain ⟨_, _, _, h, _⟩ := h
    cases h

 mutual
theorem AR.unren {n : Nat} : ∀ (v : AV) (x : Value), AR Z M w (v.ren n) x → AR Z (fun _ => M n) w v x
  | .ptr m o, x, h => by unfold AV.ren at h; unfold AR at h ⊢; exact h
  | .eptr m es i j, x, h => by unfold AV.ren at h; unfold AR at h ⊢; exact h
  | .sl m es o l, x, h => by unfold AV.ren at h; unfold AR at h ⊢; exact h
  | .mp m, x, h => by unfold AV.ren at h; unfold AR at h ⊢; exact h
  | .agg cs, x, h => by
    unfold AV.ren at h; unfold AR at h ⊢
    obtain ⟨xs, h0, h⟩ := h
    exact ⟨xs, h0, ARs.unren cs xs h⟩
  | .tup cs, x, h => by
    unfold AV.ren at h; unfold AR at h ⊢
    obtain ⟨xs, h0, h⟩ := h
    exact ⟨xs, h0, ARt.unren cs xs h⟩
  | .fn f cs, x, h => by
    unfold AV.ren at h; unfold AR at h ⊢
    obtain ⟨xs, h0, h⟩ := h
    exact ⟨xs, h0, ARs.unren cs xs h⟩
  | .any, x, h => by unfold AR; trivial
  | .d y, x, h => by unfold AV.ren at h; unfold AR at h ⊢; exact h
theorem ARs.unren {n : Nat} : ∀ (vs : List AV) (xs : List Value), ARs Z M w (AV.renL n vs) xs → ARs Z (fun _ => M n) w vs xs
  | [], xs, h => by unfold AV.renL at h; unfold ARs at h ⊢; exact h
  | v :: vs, xs, h => by
    unfold AV.renL at h; unfold ARs at h ⊢
    obtain ⟨x, xs', h0, h1, h2, h3⟩ := h
    exact ⟨x, xs', h0, h1, AR.unren v x h2, ARs.unren vs xs' h3⟩
theorem ARt.unren {n : Nat} : ∀ (vs : List AV) (xs : List Value), ARt Z M w (AV.renL n vs) xs → ARt Z (fun _ => M n) w vs xs
  | [], xs, h => by unfold AV.renL at h; unfold ARt at h ⊢; exact h
  | v :: vs, xs, h => by
    unfold AV.renL at h; unfold ARt at h ⊢
    obtain ⟨x, xs', h0, h2, h3⟩ := h
    exact ⟨x, xs', h0, AR.unren v x h2, ARt.unren vs xs' h3⟩
end
theorem OR.unren {n : Nat} {o : Ob} (h : OR Z M w n (o.ren n)) : OR Z (fun _ => M n) w 0 o := by
  cases o with
  | box cs =>
    obtain ⟨b, xs, e, h1, h2, h3, h4⟩ := h
    exact ⟨b, xs, e, h1, h2, ARs.unren _ _ h3, h4⟩
  | row es L => exact h
  | ice es L => exact h
  | icb cs => exact h
  | map k L => exact h
  | itr t pos => exact h
  | tab cs =>
    obtain ⟨h1, h2⟩ | ⟨b, arr, e, h1, h2, h3, h4, h5⟩ := h
    · refine .inl ⟨h1, ?_⟩
      cases cs with
      | nil => rfl
      | cons c cs => unfold AV.renL at h2; cases h2
    · rw [renL_len] at h3 h5
      exact .inr ⟨b, arr, e, h1, h2, h3, h4, ARs.unren _ _ h5⟩
theorem Ob.ren_live (o : Ob) (n : Nat) : (o.ren n).live = o.live := by cases o <;> rfl

theorem GivO.of (hm : P.follows .mixedOrders = true) {own unprot : List Nat} {f : FuncId} {af : AFn} (hc : cmpF P own unprot f = some af) {ds : List D} {r : AV} {o : Ob} (hl : ds.length ≤ af.nt) (h : awp P af.body (retO af.res fun r' o' => r' = r ∧ o' = o) (St.init ds)) : GivO P f ds r o := by
  obtain ⟨fn, cd, prot, hf, hb, hnt, hr, hcc, hh, hnl⟩ := cmpF_spec hc
  refine ⟨hh, fun Z w vs hz ht hv => ?_⟩
  refine calls_of_wp hf hb ?_
  rw [hnt]
  have R := Rep.init (nt := af.nt) ht hz hv hl hnl
  have fin : ∀ Z' M' s' a' w', Rep (cx Z w af.nt ht) Z' M' s' a' w' → (resV af.res s' fun vs => ownR (fun r' o' => r' = r ∧ o' = o) s' vs) →
      a'.defers = [] ∧ ∃ v, (results fn a'.tmps).run P w' = .ok v w' ∧ ∃ v_1 Z', Ending.returned v = .returned v_1 ∧ Done Z w Z' w' ∧ ∃ m : Option Nat, (∀ b, m = some b → w.heap.size ≤ b) ∧ AR Z' (fun _ => m) w' r v_1 ∧ OR Z' (fun _ => m) w' 0 o := by
    intro Z' M' s' a' w' R' h'
    obtain ⟨vs, xs, g1, g2, g3⟩ := resV_sound (P := P) R' _ _ hr h'
    rcases g1 with ⟨n, _, _, h0, h1, h2, h3, rfl, rfl⟩ | ⟨es, h0, h1, rfl, rfl⟩
    rotate_left
    · have ha := retVA_AR g2
      rw [h1] at ha
      refine ⟨R'.defers, _, results_run g3, _, Z', rfl, R'.done (c := cx Z w af.nt ht), none, (fun b hb => by cases hb), ?_, h0, .inl ⟨rfl, rfl⟩⟩
      rw [(AR.c_ ha).1]
      exact ⟨none, 0, rfl, Nat.le_refl _, Nat.zero_le _, fun _ => .inl ⟨rfl, rfl, rfl⟩⟩
    have hlive : s'.live n := ⟨_, h2, by rw [Ob.ren_live]; exact h3⟩
    refine ⟨R'.defers, _, results_run g3, _, Z', rfl, R'.done (c := cx Z w af.nt ht), M' n, fun b hb => R'.own' hlive h0 hb, ?_, OR.unren (R'.ob n _ h2)⟩
    refine AR.unren _ _ ?_
    rw [← h1]
    exact retVA_AR g2
  refine awp_sound (c := cx Z w af.nt ht) hm cd af.body hcc R h (Qc := bodyPost P fn _) (fun e Z' M' s' a' w' R' h' => ?_) (fun ch a w h => ?_)
  · cases e with
    | normal => exact fin _ _ _ _ _ R' h'
    | ret => exact fin _ _ _ _ _ R' h'
    | _ => exact h'.elim
  · obtain ⟨_, _, _, h, _⟩ := h
    cases h

/-- the objects of a list, as they are -/
def hpEq (s : St) : List (Nat × Ob) → Prop
  | [] => True
  | p :: ps => s.hp p.1 = some p.2 ∧ hpEq s ps
def St.initM (args : List AV) (obs : List (Nat × Ob)) : St := { tm := fun t => args.getD t .any, hp := fun n => hpM [] obs n none }
def endM (r : AV) (obs' : List (Nat × Ob)) (s : St) (vs : List AV) : Prop := ∃ tl s1 vs1, Gh tl s vs s1 vs1 ∧ retVA vs1 = r ∧ hpEq s1 obs'
def retM (rs : List (Nat × Option (Option Nat))) (Post : St → List AV → Prop) : Exit → St → Prop := fun e s => match e with
  | .normal => resV rs s fun vs => Post s vs
  | .ret => resV rs s fun vs => Post s vs
  | _ => False
theorem hpEq_get {s : St} : ∀ {obs : List (Nat × Ob)}, hpEq s obs → ∀ p, p ∈ obs → s.hp p.1 = some p.2
  | [], _, p, hp => by simp at hp
  | q :: obs, h, p, hp => by
    rcases List.mem_cons.1 hp with rfl | hp
    · exact h.1
    · exact hpEq_get h.2 p hp
theorem rn_id (n : Nat) : rn [] n = n := rfl
mutual
theorem AV.rho_id : ∀ v : AV, v.rho (rn []) = v
  | .ptr n o => rfl
  | .eptr n es i j => rfl
  | .sl n es o l => rfl
  | .mp n => rfl
  | .agg cs => by unfold AV.rho; rw [AV.rhoL_id cs]
  | .tup cs => by unfold AV.rho; rw [AV.rhoL_id cs]
  | .fn f cs => by unfold AV.rho; rw [AV.rhoL_id cs]
  | .any => rfl
  | .d x => rfl
theorem AV.rhoL_id : ∀ vs : List AV, AV.rhoL (rn []) vs = vs
  | [] => rfl
  | v :: vs => by unfold AV.rhoL; rw [AV.rho_id v, AV.rhoL_id vs]
end
theorem Ob.rho_id (o : Ob) : o.rho (rn []) = o := by
  cases o with
  | box cs => show Ob.box (AV.rhoL (rn []) cs) = _; rw [AV.rhoL_id]
  | tab cs => show Ob.tab (AV.rhoL (rn []) cs) = _; rw [AV.rhoL_id]
  | _ => rfl
theorem ARt_at : ∀ {vs : List AV} {xs : List Value}, ARt Z M w vs xs → ∀ t, AR Z M w (vs.getD t .any) (xs.getD t undef)
  | [], _, _, t => by simp only [List.getD_nil]; exact AR.any_
  | v :: vs, xs, h, 0 => by
    unfold ARt at h
    obtain ⟨x, xs', rfl, h1, _⟩ := h
    exact h1
  | v :: vs, xs, h, t + 1 => by
    unfold ARt at h
    obtain ⟨x, xs', rfl, _, h2⟩ := h
    exact ARt_at h2 t
theorem ARt.len : ∀ {vs : List AV} {xs : List Value}, ARt Z M w vs xs → xs.length = vs.length
  | [], _, h => by unfold ARt at h; subst h; rfl
  | v :: vs, xs, h => by
    unfold ARt at h
    obtain ⟨x, xs', rfl, _, h2⟩ := h
    simp [ARt.len h2]
theorem hpM_some {obs : List (Nat × Ob)} {n : Nat} {o : Ob} : hpM [] obs n none = some o → (n, o) ∈ obs := by
  induction obs with
  | nil => intro h; cases h
  | cons p ps ih =>
    intro h
    unfold hpM at h
    rw [rn_id, Ob.rho_id] at h
    split at h
    · rename_i e
      cases h
      subst e
      simp
    · exact List.mem_cons_of_mem _ (ih h)
theorem GivM.of (hm : P.follows .mixedOrders = true) {own unprot : List Nat} {f : FuncId} {af : AFn} (hc : cmpF P own unprot f = some af) {args : List AV} {obs obs' : List (Nat × Ob)} {r : AV} (hl : args.length ≤ af.nt) (hB : (obs.all fun p => decide (1000000 ≤ p.1) && p.2.live) = true)
    (hB' : (obs'.all fun p => p.2.live) = true) (h : awp P af.body (retM af.res (endM r obs')) (St.initM args obs)) : GivM P f args obs r obs' := by
  obtain ⟨fn, cd, prot, hf, hb, hnt, hr, hcc, hh, hnl⟩ := cmpF_spec hc
  refine ⟨hh, fun Z w M vs hz ht hgl hv hob hinj hnone => ?_⟩
  refine calls_of_wp hf hb ?_
  rw [hnt]
  simp only [List.all_eq_true, Bool.and_eq_true, decide_eq_true_eq] at hB hB'
  have hlen := hv.len
  have hname : ∀ n b, M n = some b → n ∈ obs.map (·.1) := fun n b h => Decidable.byContradiction fun hn => by rw [hnone n hn] at h; cases h
  have hge : ∀ n, n ∈ obs.map (·.1) → 1000000 ≤ n := fun n hn => by
    obtain ⟨p, hp, rfl⟩ := List.mem_map.1 hn
    exact (hB p hp).1
  have R : Rep ⟨Z, w, af.nt, M, ht, hgl⟩ Z M (St.initM args obs) { tmps := vs.toArray ++ Array.replicate (af.nt - vs.toArray.size) undef, defers := [] } w := by
    have hlive : ∀ n, (St.initM args obs).live n → n ∈ obs.map (·.1) := fun n ⟨o, ho, _⟩ => List.mem_map.2 ⟨(n, o), hpM_some ho, rfl⟩
    refine ⟨by simp; omega, rfl, fun t => ?_, fun n o h => hob (n, o) (hpM_some h), fun n h => hnone n fun hn => ?_, fun n m b h1 h2 => hinj n m b (hlive n h1) (hlive m h2), fun n b h hM => .inr hM, hz, fun b h => .inl h, fun b h => h, Frm.refl _ _, fun _ _ => rfl, hnl, fun n hn => ?_, fun _ _ h => h⟩
    · have := ARt_at hv t
      have e : (vs.toArray ++ Array.replicate (af.nt - vs.toArray.size) undef).getD t undef = vs.getD t undef := by
        simp only [Array.getD_eq_getD_getElem?, Array.getElem?_append, List.size_toArray, List.getElem?_toArray, Array.getElem?_replicate, List.getD]
        split
        · rfl
        · rw [List.getElem?_eq_none (by omega)]
          split <;> rfl
      show AR Z _ w (args.getD t .any) _
      rw [e]
      exact this
    · obtain ⟨p, hp, rfl⟩ := List.mem_map.1 hn
      have hex : ∀ (l : List (Nat × Ob)), p ∈ l → hpM [] l p.1 none ≠ none := by
        intro l
        induction l with
        | nil => intro h; cases h
        | cons q l ih =>
          intro h
          unfold hpM
          rw [rn_id]
          split
          · simp
          · rename_i e
            rcases List.mem_cons.1 h with rfl | h
            · exact absurd rfl e
            · exact ih h
      exact hex obs hp h
    · cases hM : M n with
      | none => exact hM
      | some b => have := hge n (hname n b hM); omega
  have fin : ∀ Z' M' s' a' w', Rep ⟨Z, w, af.nt, M, ht, hgl⟩ Z' M' s' a' w' → (resV af.res s' fun vs => endM r obs' s' vs) →
      a'.defers = [] ∧ ∃ v, (results fn a'.tmps).run P w' = .ok v w' ∧ ∃ v_1 Z' M', Ending.returned v = .returned v_1 ∧ (∀ b, Z b → Z' b) ∧ (∀ b, Z' b → Z b ∨ w.heap.size ≤ b) ∧ (∀ b, Z' b → b < w'.heap.size) ∧ Frm (fun b => ∃ n, M n = some b) w w' ∧ (∀ b k, room w b k → room w' b k) ∧
    AR Z' M' w' r v_1 ∧ (∀ p, p ∈ obs' → OR Z' M' w' p.1 p.2) ∧ (∀ n m b, n ∈ obs'.map (·.1) → m ∈ obs'.map (·.1) → M' n = some b → M' m = some b → n = m) ∧
    (∀ n, n ∈ obs'.map (·.1) → ∀ b, M' n = some b → w.heap.size ≤ b ∨ M n = some b) ∧ ∀ n, 2000000 ≤ n → M' n = M n := by
    intro Z' M' s' a' w' R' h'
    obtain ⟨vs, xs, ⟨tl, s1, vs1, hG, h1, h2⟩, g2, g3⟩ := resV_sound (P := P) R' _ _ hr h'
    obtain ⟨Z1, M1, k1, R1, k3, k4, _⟩ := hG _ _ _ _ _ _ R' g2
    have hlive : ∀ n, n ∈ obs'.map (·.1) → s1.live n := fun n hn => by
      obtain ⟨p, hp, rfl⟩ := List.mem_map.1 hn
      exact ⟨_, hpEq_get h2 p hp, hB' p hp⟩
    refine ⟨R'.defers, _, results_run g3, _, Z1, M1, rfl, R1.zsub, fun b h => R1.zold b h, R1.zlt, R1.fr, R1.rm, by rw [← h1]; exact retVA_AR k3, fun p hp => R1.ob _ _ (hpEq_get h2 p hp), fun n m b hn hm => R1.inj n m b (hlive n hn) (hlive m hm), fun n hn b h => R1.own n b (hlive n hn) h, fun n hn => R1.fix n hn⟩
  refine awp_sound (c := ⟨Z, w, af.nt, M, ht, hgl⟩) hm cd af.body hcc R h (Qc := bodyPost P fn _) (fun e Z' M' s' a' w' R' h' => ?_) (fun ch a w h => ?_)
  · cases e with
    | normal => exact fin _ _ _ _ _ R' h'
    | ret => exact fin _ _ _ _ _ R' h'
    | _ => exact h'.elim
  · obtain ⟨_, _, _, _, h, _⟩ := h
    cases h

/-- in Go's own words: a function that gives a bool -/
theorem Giv.calls {f : FuncId} {ds : List D} {v : Value} (hb : hasBody P f = true) (h : Giv P f ds (.d (.c v))) {w : World} {vs : List Value} (hv : DRt (fun b => b < w.heap.size) w ds vs) (ht : Tw w := by exact trivial) : Calls P f vs.toArray w fun e w' => e = .returned v ∧ Below w.heap.size w w' := by
  rcases h with h | h
  · refine (h.2 _ w vs (fun _ h => h) ht hv).mono fun e w' h => ?_
    obtain ⟨x, Z', rfl, hd, hr⟩ := h
    rw [(hr (fun _ => none)).c_.1]
    exact ⟨rfl, hd.below⟩
  · obtain ⟨x, h1, _⟩ := h _ w vs hv
    rw [callFunc_run hb] at h1
    cases h1
end
end Go.Eng

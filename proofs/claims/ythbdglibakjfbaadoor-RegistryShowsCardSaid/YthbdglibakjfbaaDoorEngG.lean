/- All reading operations on a walk's values agree with Go's ('tk_sound'). No condition. -/
import Derived.Test.YthbdglibakjfbaaDoorEngF
set_option linter.unusedSectionVars false
namespace Go.Eng
open Go.RowKit
variable [Inhabited Lo]
section
variable {P : Program} {c : Cx} {Z : Nat → Prop} {M : Nat → Option Nat} {s : St} {a : Act} {w w' : World}
theorem extW_iff {v : AV} {x : Value} {i : Nat} (hv : AR Z M w v x) {K : AV → Prop} (h : extW i v K) : ∃ u y, Runs P (Instr.extract x i) y ∧ AR Z M w u y ∧ K u := by
  unfold extW at h
  split at h
  · rename_i vs
    split at h
    · rename_i v hvi
      unfold AR at hv
      obtain ⟨xs, rfl, hvs⟩ := hv
      have : ∀ (vs : List AV) (xs : List Value) (i : Nat), ARt Z M w vs xs → vs[i]? = some v → ∃ x, xs[i]? = some x ∧ AR Z M w v x := by
        intro vs
        induction vs with
        | nil => intro xs i _ hi; simp at hi
        | cons u vs ih =>
          intro xs i h hi
          unfold ARt at h
          obtain ⟨x, xs', rfl, h1, h2⟩ := h
          cases i with
          | zero => simp at hi; subst hi; exact ⟨x, rfl, h1⟩
          | succ i => simpa using ih xs' i h2 (by simpa using hi)
      obtain ⟨y, hy, hvy⟩ := this vs xs i hvs hvi
      exact ⟨v, y, fun w => by simp [Instr.extract, hy], hvy, h⟩
    · exact h.elim
  · exact h.elim

theorem len_sound {v : AV} {x : Value} (hv : AR Z M w v x) {K : Int → Prop} (h : lenW v K) : ∃ ad cap, ∃ n : Nat, K n ∧ x = .slice ad n cap := by
  unfold lenW at h
  split at h
  · unfold AR DR at hv
    obtain ⟨ad, cap, rfl, _⟩ := hv
    exact ⟨_, _, _, h, rfl⟩
  · unfold AR at hv
    obtain ⟨ad, cap, rfl, _⟩ := hv
    exact ⟨_, _, _, h, rfl⟩
  · exact ⟨_, _, 0, h, hv.c_.1⟩
  · exact h.elim

/-- an entry found, or not, by a key that is a whole number -/
theorem findNow_int {q : IntKind} {z : Int} : ∀ (es : List MapEntry) (L : List (Int × Value)) (i : Nat), es.map (fun e => (e.key, e.val)) = L.map (fun p => (Value.int q p.1, p.2)) →
    (mget L z = none ∧ Instr.findNow (.int q) (.int q z) es i = some none) ∨ ∃ j v, mget L z = some v ∧ Instr.findNow (.int q) (.int q z) es i = some (some (i + j, v)) ∧ (es[j]?).map (·.key) = some (.int q z) ∧ (es.modify j fun e => { e with val := e.val }) = es ∧
      ∀ x, (es.modify j fun e => { e with key := .int q z, val := x }).map (fun e => (e.key, e.val)) = (mset L z x).map (fun p => (Value.int q p.1, p.2))
  | [], [], i, _ => .inl ⟨rfl, rfl⟩
  | [], p :: L, i, h => by simp at h
  | e :: es, [], i, h => by simp at h
  | e :: es, (a, v) :: L, i, h => by
    simp only [List.map_cons, List.cons.injEq, Prod.mk.injEq] at h
    obtain ⟨⟨h1, h2⟩, h3⟩ := h
    by_cases hz : z = a
    · subst hz
      refine .inr ⟨0, v, by simp [mget], ?_, by simp [h1], by simp, fun x => ?_⟩
      · simp [Instr.findNow, Instr.sameNow, h1, h2]
      · simp [mset, h3]
    · have hs : Instr.sameNow (.int q) (.int q z) e.key = some false := by
        rw [h1]; simp [Instr.sameNow, hz]
      rcases findNow_int (z := z) es L (i + 1) h3 with ⟨k1, k2⟩ | ⟨j, u, k1, k2, k3, k4, k5⟩
      · exact .inl ⟨by simp [mget, hz, k1], by simp [Instr.findNow, hs, k2]⟩
      · refine .inr ⟨j + 1, u, by simp [mget, hz, k1], ?_, by simpa using k3, ?_, fun x => ?_⟩
        · simp only [Instr.findNow, hs, k2]
          rw [Nat.add_assoc, Nat.add_comm 1 j]
        · simpa using k4
        · simpa [mset, hz, h1, h2] using k5 x
theorem run_getObj {b : Nat} {es : Array MapEntry} {cl : Nat} (h : w.heap[b]? = some (.map es cl)) : (getObj b).run P w = .ok (.map es cl) w := MapKept.run_getObj_map h
theorem checkKey_int {k : TypeId} {q : IntKind} {z : Int} {em : Bool} (hk : P.underlying k = some (.int q)) : (Instr.checkKey em 10000 k (.int q z)).run P w = .ok () w := by
  rw [Instr.checkKey]
  simp [run_underlying hk]
theorem zeroV_run {e : TypeId} {z : Value} (h : zeroV P e = some z) : (zeroValue e).run P w = .ok z w ∧ z.oneCell' = true := by
  unfold zeroV at h
  split at h
  · rename_i i hi
    split at h
    · rename_i z' hz
      split at h
      · rename_i ho
        cases h
        exact ⟨by simp [zeroValue, typeInfo, hi, hz], ho⟩
      · cases h
    · cases h
  · cases h
def lkV (ok : Bool) (zero : Value) (o : Option Value) : Value := match ok, o with
  | true, some v => .tuple #[v, .bool true]
  | true, none => .tuple #[zero, .bool false]
  | false, some v => v
  | false, none => zero
theorem lookup_run {t k e : TypeId} {q : IntKind} {zero : Value} {b : Nat} {es : Array MapEntry} {cl : Nat} {L : List (Int × Value)} {ok : Bool} {z : Int} (ht : P.underlying t = some (.map k e)) (hk : P.underlying k = some (.int q)) (hz : zeroV P e = some zero)
    (hb : w.heap[b]? = some (.map es cl)) (hes : es.toList.map (fun e => (e.key, e.val)) = L.map (fun p => (Value.int q p.1, p.2))) :
    (Instr.lookup t (.map (some b)) (.int q z) ok).run P w = .ok (lkV ok zero (mget L z)) w := by
  have hzero := (zeroV_run (w := w) hz).1
  unfold Instr.lookup
  simp only [Sem.run_bind, run_underlying ht, Result.andThen_ok, run_getObj hb, Sem.run_pure, checkKey_int hk]
  rcases findNow_int (z := z) es.toList L 0 hes with ⟨k1, k2⟩ | ⟨j, v, k1, k2, _⟩
  · simp only [Instr.findKey, Sem.run_bind, run_underlying hk, Result.andThen_ok, k2, Sem.run_pure, hzero, k1]
    cases ok <;> rfl
  · simp only [Instr.findKey, Sem.run_bind, run_underlying hk, Result.andThen_ok, k2, Sem.run_pure, k1]
    cases ok <;> rfl
theorem mget_one {L : List (Int × Value)} (h : ∀ p ∈ L, p.2.oneCell' = true) {z : Int} {v : Value} (hv : mget L z = some v) : v.oneCell' = true := by
  induction L with
  | nil => cases hv
  | cons p L ih =>
    unfold mget at hv
    split at hv
    · cases hv; exact h p (by simp)
    · exact ih (fun q hq => h q (List.mem_cons_of_mem _ hq)) hv
theorem mset_one {L : List (Int × Value)} (h : ∀ p ∈ L, p.2.oneCell' = true) {z : Int} {v : Value} (hv : v.oneCell' = true) : ∀ p ∈ mset L z v, p.2.oneCell' = true := by
  induction L with
  | nil => intro p hp; simp [mset] at hp; subst hp; exact hv
  | cons q L ih =>
    intro p hp
    unfold mset at hp
    split at hp
    · rcases List.mem_cons.1 hp with rfl | hp
      · exact hv
      · exact h p (List.mem_cons_of_mem _ hp)
    · rcases List.mem_cons.1 hp with rfl | hp
      · exact h _ (by simp)
      · exact ih (fun q hq => h q (List.mem_cons_of_mem _ hq)) p hp
def rdM : AV → List Nat
  | .mp n => [n]
  | _ => []
def rdI (i : Ins) (s : St) : List Nat := match i with
  | .ld a => rdV (ev s a)
  | .ldn _ a => rdV (ev s a)
  | .cvS x => rdS (ev s x)
  | .lkp _ _ _ m _ => rdM (ev s m)
  | .lenM m => rdM (ev s m)
  | _ => []
theorem tk_sound (R : Rep c Z M s a w) {own : List Nat} {o : Oper} {i : Ins} (hc : cmp P own o = some i) {K : AV → Prop} (h : tk i s K) : ∃ v x, Yb P o x a w Z M (rdI i s) ∧ AR Z M w v x ∧ K v := by
  unfold cmp at hc
  split at hc
  case h_1 x hop =>
    cases hc
    exact ⟨_, _, fun w' _ => by simp [execOp, hop], R.ev x, h⟩
  case h_2 x hop =>
    cases hc
    exact ⟨_, _, fun w' _ => by simp [execOp, hop], R.ev x, h⟩
  case h_3 cc x y hop =>
    cases hc
    obtain ⟨t, ht, hk⟩ := boolW_iff (R.ev cc) h
    refine ⟨_, if t = true then a.eval x else a.eval y, fun w' _ => ?_, ?_, hk⟩
    · cases t <;> simp [execOp, hop, ht, asBool]
    · cases t
      · exact R.ev y
      · exact R.ev x
  case h_4 t x hop =>
    split at hc
    · rename_i hp
      cases hc
      obtain ⟨u, y, h1, h2, h3⟩ := ld_sound (P := P) R hp (R.ev x) h
      exact ⟨u, y, Yb.of (by simp only [execOp, hop]) h1, h2, h3⟩
    · rename_i n hp
      split at hc
      · rename_i hn
        cases hc
        obtain ⟨u, y, h1, h2, h3⟩ := ldn_sound (P := P) R hp hn (R.ev x) h
        exact ⟨u, y, Yb.of (by simp only [execOp, hop]) h1, h2, h3⟩
      · cases hc
    · cases hc
  case h_5 op t x y yt hop =>
    have key : ∀ ns, tk (.bin op x y) s K → ∃ v x, Yb P o x a w Z M ns ∧ AR Z M w v x ∧ K v := fun ns h => by
      obtain ⟨r, h1, h2, h3⟩ := bin_sound (P := P) (t := t) (ox := x) (oy := y) (R.ev x) (R.ev y) h
      exact ⟨_, r, Yb.runs (by simp only [execOp, hop]) h1, AR.c_of h2, h3⟩
    split at hc
    · cases hc; exact key _ h
    · cases hc; exact key _ h
    · rename_i ht
      split at hc
      · cases hc
        obtain ⟨p, hp, h⟩ := boolW_iff (R.ev x) h
        obtain ⟨q, hq, h⟩ := boolW_iff (R.ev y) h
        have hr := eqB_sound (P := P) (neg := false) (ox := x) (oy := y) (x := p) (y := q) ht
        refine ⟨_, _, Yb.runs ?_ hr, AR.c_of rfl, h⟩
        simp only [execOp, hop, hp, hq, Bool.false_eq_true, if_false]
      · cases hc
        obtain ⟨p, hp, h⟩ := boolW_iff (R.ev x) h
        obtain ⟨q, hq, h⟩ := boolW_iff (R.ev y) h
        have hr := eqB_sound (P := P) (neg := true) (ox := x) (oy := y) (x := p) (y := q) ht
        refine ⟨_, _, Yb.runs ?_ hr, AR.c_of rfl, h⟩
        simp only [execOp, hop, hp, hq, if_true]
      · cases hc
    · rename_i e ht
      split at hc
      · cases hc
        have h : isNilW (ev s x) fun b => K (.d (.c (.bool (if false = true then !b else b)))) := h
        obtain ⟨ad, n, cap, hx, h⟩ := isNilW_iff (R.ev x) h
        refine ⟨_, _, Yb.runs ?_ (isNil_run (P := P) (neg := false) (ox := x) (oy := .const (.slice none 0 0)) (ad := ad) (n := n) (cap := cap) ht), AR.c_of rfl, h⟩
        have hn : a.eval (.const (.slice none 0 0)) = .slice none 0 0 := rfl
        simp only [execOp, hop, hx, hn, Bool.false_eq_true, if_false]
      · cases hc
        have h : isNilW (ev s x) fun b => K (.d (.c (.bool (if true = true then !b else b)))) := h
        obtain ⟨ad, n, cap, hx, h⟩ := isNilW_iff (R.ev x) h
        refine ⟨_, _, Yb.runs ?_ (isNil_run (P := P) (neg := true) (ox := x) (oy := .const (.slice none 0 0)) (ad := ad) (n := n) (cap := cap) ht), AR.c_of rfl, h⟩
        have hn : a.eval (.const (.slice none 0 0)) = .slice none 0 0 := rfl
        simp only [execOp, hop, hx, hn, if_true]
      · cases hc
    · rename_i e ht
      split at hc
      · cases hc
        have h : isNilPW (ev s x) fun b => K (.d (.c (.bool (if false = true then !b else b)))) := h
        obtain ⟨ad, hx, h⟩ := isNilPW_iff (R.ev x) h
        refine ⟨_, _, Yb.runs ?_ (isNilP_run (P := P) (neg := false) (ox := x) (oy := .const (.pointer none)) (ad := ad) ht), AR.c_of rfl, h⟩
        have hn : a.eval (.const (.pointer none)) = .pointer none := rfl
        simp only [execOp, hop, hx, hn, Bool.false_eq_true, if_false]
      · cases hc
        have h : isNilPW (ev s x) fun b => K (.d (.c (.bool (if true = true then !b else b)))) := h
        obtain ⟨ad, hx, h⟩ := isNilPW_iff (R.ev x) h
        refine ⟨_, _, Yb.runs ?_ (isNilP_run (P := P) (neg := true) (ox := x) (oy := .const (.pointer none)) (ad := ad) ht), AR.c_of rfl, h⟩
        have hn : a.eval (.const (.pointer none)) = .pointer none := rfl
        simp only [execOp, hop, hx, hn, if_true]
      · cases hc
    · rename_i fields ht
      split at hc
      · rename_i ks c1
        split at hc
        · rename_i hcnd
          obtain ⟨c2, c3⟩ := hcnd
          have keyG : ∀ neg, op = (if neg = true then .neq else .eql) → tk (.eqG ks neg x y) s K → ∃ v z, Yb P o z a w Z M (rdI (.eqG ks neg x y) s) ∧ AR Z M w v z ∧ K v := fun neg hop2 h => by
            have h : aggW (ev s x) fun cs => aggW (ev s y) fun ds => eqL ks cs ds fun r => K (.d (.c (.bool (if neg = true then !r else r)))) := h
            obtain ⟨cs, xs, h, hx, hcs⟩ := aggW_sound (R.ev x) h
            obtain ⟨ds, ys, h, hy, hds⟩ := aggW_sound (R.ev y) h
            obtain ⟨r, hr, hrun⟩ := eqG_sound (P := P) (neg := neg) (ox := x) (oy := y) ht c1 c2 c3 hcs hds h
            refine ⟨_, _, Yb.runs ?_ hrun, AR.c_of rfl, hr⟩
            simp only [execOp, hop, hx, hy, hop2]
          split at hc
          · cases hc; exact keyG false rfl h
          · cases hc; exact keyG true rfl h
          · cases hc
        · cases hc
      · cases hc
    · rename_i len e ht
      split at hc
      · rename_i b c1
        split at hc
        · rename_i hcnd
          obtain ⟨c2, c3⟩ := hcnd
          have keyG : ∀ neg, op = (if neg = true then .neq else .eql) → tk (.eqG (List.replicate len b) neg x y) s K → ∃ v z, Yb P o z a w Z M (rdI (.eqG (List.replicate len b) neg x y) s) ∧ AR Z M w v z ∧ K v := fun neg hop2 h => by
            have h : aggW (ev s x) fun cs => aggW (ev s y) fun ds => eqL (List.replicate len b) cs ds fun r => K (.d (.c (.bool (if neg = true then !r else r)))) := h
            obtain ⟨cs, xs, h, hx, hcs⟩ := aggW_sound (R.ev x) h
            obtain ⟨ds, ys, h, hy, hds⟩ := aggW_sound (R.ev y) h
            obtain ⟨r, hr, hrun⟩ := eqA_sound (P := P) (neg := neg) (ox := x) (oy := y) ht c1 c2 c3 hcs hds h
            refine ⟨_, _, Yb.runs ?_ hrun, AR.c_of rfl, hr⟩
            simp only [execOp, hop, hx, hy, hop2]
          split at hc
          · cases hc; exact keyG false rfl h
          · cases hc; exact keyG true rfl h
          · cases hc
        · cases hc
      · cases hc
    · cases hc
  case h_6 op t x hop =>
    cases hc
    have h : unW op (ev s x) fun v => K (.d (.c v)) := h
    obtain ⟨r, h1, h2, h3⟩ := un_sound (P := P) (R.ev x) h
    exact ⟨_, r, Yb.runs (by simp only [execOp, hop]) h1, AR.c_of h2, h3⟩
  case h_7 src dst x hop =>
    split at hc
    · rename_i k k' hs hd
      cases hc
      obtain ⟨_, n, he, h⟩ := intW_iff (R.ev x) h
      exact ⟨_, .int k' (k'.wrap n), Yb.runs (m := convert src dst (a.eval x)) (by simp only [execOp, hop]) (fun w => by rw [he]; simp [convert, run_underlying hs, run_underlying hd, Conv.intToInt]), AR.c_of rfl, h⟩
    · rename_i hs hd
      cases hc
      obtain ⟨b, he, h⟩ := strW_iff (R.ev x) h
      exact ⟨_, .string b, Yb.runs (m := convert src dst (a.eval x)) (by simp only [execOp, hop]) (fun w => by rw [he]; simp [convert, run_underlying hs, run_underlying hd]), AR.c_of rfl, h⟩
    · rename_i e hs hd
      split at hc
      · rename_i he
        cases hc
        obtain ⟨l, h1, hk⟩ := cvSA_sound R hs he hd (R.ev x) h
        exact ⟨_, _, Yb.of (by simp only [execOp, hop]) (fun w' hw => h1 w' hw), AR.c_of rfl, hk⟩
      · cases hc
    · split at hc
      · split at hc
        · cases hc; exact h.elim
        · cases hc
      · cases hc
    · split at hc
      · split at hc
        · cases hc; exact h.elim
        · cases hc
      · cases hc
    · cases hc
  case h_8 t x lo hi hop =>
    split at hc
    · rename_i e ht
      cases hs : sizeT P e with
      | none => simp [hs] at hc
      | some n =>
        simp only [hs, Option.map_some, Option.some.injEq] at hc
        subst hc
        obtain ⟨u, y, h1, h2, h3⟩ := slc_sound (P := P) R ht hs (R.ev x) h
        exact ⟨u, y, Yb.runs (by simp only [execOp, hop]; rfl) h1, h2, h3⟩
    · rename_i ht
      cases hc
      obtain ⟨b, he, h⟩ := strW_iff (R.ev x) h
      obtain ⟨u, y, h1, h2, h3⟩ := slcS_sound (P := P) R ht h
      exact ⟨u, y, Yb.runs (by simp only [execOp, hop, he]; rfl) h1, h2, h3⟩
    · cases hc
  case h_9 t x f hop =>
    split at hc
    · rename_i fields ht
      split at hc
      · rename_i fd hf
        split at hc
        · rename_i n hn
          split at hc
          · cases hc
          · rename_i h0
            cases hc
            obtain ⟨u, y, h1, h2, h3⟩ := fadr_sound (P := P) ht hf hn h0 (R.ev x) h
            exact ⟨u, y, Yb.runs (by simp only [execOp, hop]) h1, h2, h3⟩
        · cases hc
      · cases hc
    · cases hc
  case h_10 t x f hop =>
    split at hc
    · rename_i fields ht
      split at hc
      · rename_i fd hf
        cases hn : partOf P fd.type with
        | none => simp [hn] at hc
        | some n =>
          simp only [hn, Option.map_some, Option.some.injEq] at hc
          subst hc
          obtain ⟨u, y, h1, h2, h3⟩ := fld_sound (P := P) ht hf hn (R.ev x) h
          exact ⟨u, y, Yb.runs (by simp only [execOp, hop]) h1, h2, h3⟩
      · cases hc
    · cases hc
  case h_11 t x ix hop =>
    split at hc
    · rename_i e ht
      cases hs : sizeT P e with
      | none => simp [hs] at hc
      | some n =>
        simp only [hs, Option.map_some, Option.some.injEq] at hc
        subst hc
        obtain ⟨u, y, h1, h2, h3⟩ := iadr_sound (P := P) ht hs (R.ev x) (R.ev ix) h
        exact ⟨u, y, Yb.runs (by simp only [execOp, hop]) h1, h2, h3⟩
    · rename_i len e ht
      cases hs : sizeT P e with
      | none => simp [hs] at hc
      | some n =>
        simp only [hs, Option.map_some, Option.some.injEq] at hc
        subst hc
        obtain ⟨u, y, h1, h2, h3⟩ := iadrA_sound (P := P) ht hs (R.ev x) (R.ev ix) h
        exact ⟨u, y, Yb.runs (by simp only [execOp, hop]) h1, h2, h3⟩
    · cases hc
  case h_12 t x ix hop =>
    split at hc
    · rename_i ht
      cases hc
      obtain ⟨b, he, h⟩ := strW_iff (R.ev x) h
      obtain ⟨k, i, hi, h, hk⟩ := intW_iff (R.ev ix) h
      obtain ⟨n, rfl⟩ := Int.eq_ofNat_of_zero_le h.1
      have hn : n < b.size := by omega
      refine ⟨_, .int .u8 (b.data.toList.getD n 0).toNat, Yb.runs (m := Instr.index t (a.eval x) (a.eval ix)) (by simp only [execOp, hop]) (fun w => ?_), AR.c_of rfl, by simpa using hk⟩
      rw [he, hi]
      have e : b[(n : Int).toNat]? = some (b.data.toList.getD n 0) := by
        rw [Int.toNat_natCast, getElem?_pos b n hn]
        have hs : n < b.data.size := hn
        show some b.data[n] = _
        simp [List.getD, Array.getElem?_eq_getElem hs]
      simp only [Instr.index, asIntOf, Sem.run_bind, Sem.run_pure, Result.andThen_ok, run_underlying ht, if_pos h.1, e]
    · rename_i ht
      split at hc
      · rename_i hcnd
        cases hc
        obtain ⟨k, i, hi, h, hk⟩ := intW_iff (R.ev ix) h
        obtain ⟨u, y, h1, h2, h3⟩ := idxA_sound (P := P) (k := k) ht hcnd.1 hcnd.2 (R.ev x) h hk
        refine ⟨u, y, Yb.runs (m := Instr.index t (a.eval x) (a.eval ix)) (by simp only [execOp, hop]) (fun w => ?_), h2, h3⟩
        rw [hi]; exact h1 w
      · cases hc
    · cases hc
  case h_13 x ix hop =>
    cases hc
    obtain ⟨u, y, h1, h2, h3⟩ := extW_iff (P := P) (R.ev x) h
    exact ⟨u, y, Yb.runs (by simp only [execOp, hop]) h1, h2, h3⟩
  case h_14 t parts hop =>
    split at hc
    · rename_i zero pl hz hp
      cases hm : (parts.toList.mapM fun (p : Nat × Operand) => (pl p.1).map fun (q : Nat × Nat) => (q.1, q.2, p.2)) with
      | none => simp [hm] at hc
      | some ps =>
        simp only [hm, Option.map_some, Option.some.injEq] at hc
        subst hc
        obtain ⟨hb, ho⟩ := built_of hz hp (parts.map fun (i, x) => (i, a.eval x)).toList
        have h : buildW s (fun cs => K (.agg cs)) (zero.map fun v => AV.d (.c v)) ps := h
        obtain ⟨ys, cs', h1, h2, h3⟩ := fill_sound R pl parts.toList ps _ zero.toArray hm (by simpa using ARs_consts ho) h
        refine ⟨_, .agg ys, Yb.runs (m := Instr.build t (parts.map fun (i, x) => (i, a.eval x))) (by simp only [execOp, hop]) (fun w => run_build w t _ ys ?_), ?_, h2⟩
        · rw [hb, ← h1]
          simp
        · unfold AR; exact ⟨ys.toList, by simp, h3⟩
    · cases hc
  case h_15 fn first caps hop =>
    split at hc
    · rename_i f
      split at hc
      · rename_i h0
        cases hc
        obtain ⟨h1, hk⟩ := h
        refine ⟨_, .func (.func f) #[] (caps.map a.eval), Yb.runs (m := Instr.makeFunc (.func f) (first.map a.eval) (caps.map a.eval)) (by simp only [execOp, hop]) (fun w => ?_), ?_, hk⟩
        · obtain rfl : first = #[] := Array.eq_empty_of_size_eq_zero h0
          simp [Instr.makeFunc]
        · unfold AR
          refine ⟨caps.toList.map a.eval, by rw [← List.map_toArray, Array.toArray_toList], fn_cells h1 (by simp) fun i v hv => ?_⟩
          rw [List.getElem?_map] at hv ⊢
          cases hq : caps.toList[i]? with
          | none => simp [hq] at hv
          | some q =>
            simp only [hq, Option.map_some, Option.some.injEq] at hv
            subst hv
            exact ⟨_, rfl, R.ev q⟩
      · cases hc
    · cases hc
  case h_16 t hop =>
    split at hc
    · cases hz : zeroOf P t with
      | none => simp [hz] at hc
      | some z => simp only [hz, Option.map_some, Option.some.injEq] at hc; subst hc; exact h.elim
    · cases hc
  case h_17 t x hop =>
    split at hc
    · cases hz : sizeT P t with
      | none => simp [hz] at hc
      | some z => simp only [hz, Option.map_some, Option.some.injEq] at hc; subst hc; exact h.elim
    · cases hc
  case h_18 t len parts hop =>
    split at hc
    · split at hc
      · split at hc
        · cases hc
        · split at hc
          · split at hc
            · split at hc
              · cases hc; exact h.elim
              · cases hc
            · cases hc
          · split at hc
            · split at hc
              · cases hc; exact h.elim
              · cases hc
            · split at hc
              · split at hc
                · cases hc; exact h.elim
                · cases hc
              · split at hc
                · cases hc; exact h.elim
                · cases hc
      · cases hc
    · cases hc
  case h_19 t l cc hop =>
    split at hc
    · split at hc
      · split at hc
        · cases hc
        · split at hc
          · cases hc; exact h.elim
          · cases hc
      · cases hc
    · cases hc
  case h_20 t x y hop =>
    split at hc
    · cases hz : sizeT P t with
      | none => simp [hz] at hc
      | some z => simp only [hz, Option.map_some, Option.some.injEq] at hc; subst hc; exact h.elim
    · cases hc
  case h_21 cl hop =>
    split at hc
    · rename_i hcal
      split at hc
      · rename_i x t hargs hts
        have he : execOp a.eval o = (do pure (.value (← Builtin.len_ #[t] o.type #[a.eval x]))) := by
          have e1 : cl.args = #[x] := by rw [← Array.toArray_toList (xs := cl.args), hargs]
          have e2 : cl.argTypes = #[t] := by rw [← Array.toArray_toList (xs := cl.argTypes), hts]
          simp only [execOp, hop, resolve, hcal, e1, e2]
          simp [invoke, builtin]
        split at hc
        · rename_i e ht
          cases hc
          have h : lenW (ev s x) fun n => K (.d (.c (.int .i64 n))) := h
          obtain ⟨ad, cap, n, hk, hx⟩ := len_sound (R.ev x) h
          exact ⟨_, .int .i64 n, Yb.runs he (fun w => by rw [hx]; simp [Builtin.len_, run_underlying ht, goInt]), AR.c_of rfl, hk⟩
        · rename_i ht
          cases hc
          obtain ⟨b, hx, hk⟩ := strW_iff (R.ev x) h
          exact ⟨_, .int .i64 b.size, Yb.runs he (fun w => by rw [hx]; simp [Builtin.len_, run_underlying ht, goInt]), AR.c_of rfl, hk⟩
        · rename_i ht
          cases hc
          have h : lenMW s (ev s x) fun n => K (.d (.c (.int .i64 n))) := h
          have hx := R.ev x
          unfold lenMW at h
          split at h
          · rename_i n hn
            rw [hn] at hx
            unfold AR at hx
            obtain ⟨b, hb, hx⟩ := hx
            unfold lenMO at h
            split at h
            · rename_i q L hq
              obtain ⟨b', es, cl', g1, g2, g3, _⟩ := R.ob n _ hq
              rw [hb] at g1; cases g1
              have hlen : es.size = L.length := by simpa using congrArg List.length g3
              refine ⟨_, .int .i64 L.length, Yb.of he (fun w' hw => ?_), AR.c_of rfl, h⟩
              have hb' := (hw.m n (by simp [rdI, hn, rdM]) b hb).trans g2
              rw [hx]; simp [Builtin.len_, run_underlying ht, goInt, run_getObj hb', hlen]
            · exact h.elim
          · exact h.elim
        · cases hc
      · cases hc
    · split at hc
      · split at hc
        · split at hc
          · split at hc
            · split at hc
              · cases hc; exact h.elim
              · cases hc
            · split at hc
              · cases hc; exact h.elim
              · split at hc
                · split at hc
                  · cases hc; exact h.elim
                  · cases hc
                · cases hc
          · cases hc
        · cases hc
      · cases hc
    · split at hc
      · split at hc
        · split at hc
          · cases hc; exact h.elim
          · cases hc
        · cases hc
      · cases hc
    · rename_i hcal
      split at hc
      · rename_i x xs hargs
        cases hc
        have e1 : cl.args = (x :: xs).toArray := by rw [← hargs, Array.toArray_toList]
        have h : intW (ev s x) fun k i => mmW false s k i (fun z => K (.d (.c (.int k z)))) xs := h
        obtain ⟨k, i, hx, h⟩ := intW_iff (R.ev x) h
        obtain ⟨z, hz, hr⟩ := mm_fold (P := P) R false xs i h
        refine ⟨_, .int k z, Yb.runs (m := Builtin.min_ cl.argTypes o.type ((x :: xs).map a.eval).toArray) ?_ (fun w => ?_), AR.c_of rfl, hz⟩
        · simp only [execOp, hop, resolve, hcal, e1]
          simp [invoke, builtin]
        · simp only [Builtin.min_, List.map_cons, hx]
          simpa using hr w
      · cases hc
    · rename_i hcal
      split at hc
      · rename_i x xs hargs
        cases hc
        have e1 : cl.args = (x :: xs).toArray := by rw [← hargs, Array.toArray_toList]
        have h : intW (ev s x) fun k i => mmW true s k i (fun z => K (.d (.c (.int k z)))) xs := h
        obtain ⟨k, i, hx, h⟩ := intW_iff (R.ev x) h
        obtain ⟨z, hz, hr⟩ := mm_fold (P := P) R true xs i h
        refine ⟨_, .int k z, Yb.runs (m := Builtin.max_ cl.argTypes o.type ((x :: xs).map a.eval).toArray) ?_ (fun w => ?_), AR.c_of rfl, hz⟩
        · simp only [execOp, hop, resolve, hcal, e1]
          simp [invoke, builtin]
        · simp only [Builtin.max_, List.map_cons, hx]
          simpa using hr w
      · cases hc
    · rename_i hcal
      split at hc
      · rename_i x t hargs hts
        have he : execOp a.eval o = (do pure (.value (← Builtin.cap_ #[t] o.type #[a.eval x]))) := by
          have e1 : cl.args = #[x] := by rw [← Array.toArray_toList (xs := cl.args), hargs]
          have e2 : cl.argTypes = #[t] := by rw [← Array.toArray_toList (xs := cl.argTypes), hts]
          simp only [execOp, hop, resolve, hcal, e1, e2]
          simp [invoke, builtin]
        split at hc
        · rename_i e ht
          cases hc
          have h : ev s x = .d (.c (.slice none 0 0)) ∧ K (.d (.c (.int .i64 0))) := h
          have hx := R.ev x
          rw [h.1] at hx
          have hx := hx.c_.1
          exact ⟨_, .int .i64 0, Yb.runs he (fun w => by rw [hx]; simp [Builtin.cap_, run_underlying ht, goInt]), AR.c_of rfl, h.2⟩
        · cases hc
      · cases hc
    · cases hc; exact h.elim
    · cases hc; exact h.elim
    · cases hc
  case h_22 x hop =>
    cases hc
    have h : nilCW (ev s x) K := h
    have hx := R.ev x
    unfold nilCW at h
    split at h
    · rename_i cs hv
      rw [hv] at hx
      have hx' := hx
      unfold AR DR at hx
      obtain ⟨b, off, hx, _⟩ := hx
      exact ⟨_, a.eval x, fun w' _ => by simp [execOp, hop, hx], hx', h⟩
    · rename_i n off hv
      rw [hv] at hx
      have hx' := hx
      unfold AR at hx
      obtain ⟨b, _, hx⟩ := hx
      exact ⟨_, a.eval x, fun w' _ => by simp [execOp, hop, hx], hx', h⟩
    · rename_i n es i j hv
      rw [hv] at hx
      have hx' := hx
      unfold AR at hx
      obtain ⟨b, _, hx⟩ := hx
      exact ⟨_, a.eval x, fun w' _ => by simp [execOp, hop, hx], hx', h⟩
    · rename_i f cs hv
      rw [hv] at hx
      have hx' := hx
      unfold AR at hx
      obtain ⟨xs, hx, _⟩ := hx
      exact ⟨_, a.eval x, fun w' _ => by simp [execOp, hop, hx], hx', h⟩
    · rename_i f cs hv
      rw [hv] at hx
      have hx' := hx
      unfold AR DR at hx
      obtain ⟨xs, hx, _⟩ := hx
      exact ⟨_, a.eval x, fun w' _ => by simp [execOp, hop, hx], hx', h⟩
    · exact h.elim
  case h_23 t hop =>
    split at hc
    · split at hc
      · cases hc; exact h.elim
      · cases hc
    · cases hc
  case h_24 t x ix ok hop =>
    split at hc
    · rename_i k e ht
      split at hc
      · rename_i q zero hk hz
        cases hc
        have h : lkW s q ok zero (ev s x) (ev s ix) K := h
        have hx := R.ev x
        have hi := R.ev ix
        unfold lkW at h
        split at h
        · rename_i n q' z hn hz'
          obtain ⟨rfl, h⟩ := h
          rw [hn] at hx
          rw [hz'] at hi
          unfold AR at hx
          obtain ⟨b, hb, hx⟩ := hx
          have hi := hi.c_.1
          unfold lkO at h
          split at h
          · rename_i q2 L hq
            obtain ⟨rfl, h⟩ := h
            obtain ⟨b', es, cl', g1, g2, g3, g4, _⟩ := R.ob n _ hq
            rw [hb] at g1; cases g1
            refine ⟨_, lkV ok zero (mget L z), Yb.of (m := Instr.lookup t (a.eval x) (a.eval ix) ok) (by simp only [execOp, hop]) (fun w' hw => ?_), ?_, h⟩
            · rw [hx, hi]
              exact lookup_run ht hk hz ((hw.m n (by simp [rdI, hn, rdM]) b hb).trans g2) g3
            · have h0 := (zeroV_run (w := w) hz).2
              have hone : ∀ (v : Value), v.oneCell' = true → ∀ t : Bool, AR Z M w (.tup [.d (.c v), .d (.c (.bool t))]) (.tuple #[v, .bool t]) := fun v hv t => by
                unfold AR
                refine ⟨[v, .bool t], rfl, ?_⟩
                unfold ARt
                refine ⟨v, [.bool t], rfl, AR.c_of hv, ?_⟩
                unfold ARt
                exact ⟨.bool t, [], rfl, AR.c_of rfl, by unfold ARt; rfl⟩
              cases ok with
              | true => cases hm : mget L z with
                | none => exact hone _ h0 _
                | some v => exact hone _ (mget_one g4 hm) _
              | false => cases hm : mget L z with
                | none => exact AR.c_of h0
                | some v => exact AR.c_of (mget_one g4 hm)
          · exact h.elim
        · exact h.elim
      · cases hc
    · cases hc
  case h_25 t m key x hop =>
    split at hc
    · split at hc
      · split at hc
        · cases hc; exact h.elim
        · cases hc
      · cases hc
    · cases hc
  case h_26 t m key x hop =>
    split at hc
    · split at hc
      · split at hc
        · cases hc; exact h.elim
        · cases hc
      · cases hc
    · cases hc
  case h_27 =>
    cases hc
    have h : (AV.d (.c (.bool false)) : AV) = .d (.c (.slice none 0 0)) ∧ K (.d (.c (.int .i64 0))) := h
    cases h.1
  case h_28 =>
    cases hc
    have h : (AV.d (.c (.bool false)) : AV) = .d (.c (.slice none 0 0)) ∧ K (.d (.c (.int .i64 0))) := h
    cases h.1
  case h_29 t x hop =>
    split at hc
    · cases hc; exact h.elim
    · cases hc
  case h_30 x str hop =>
    split at hc
    · cases hc; exact h.elim
    · cases hc
  case h_31 => cases hc
end
end Go.Eng

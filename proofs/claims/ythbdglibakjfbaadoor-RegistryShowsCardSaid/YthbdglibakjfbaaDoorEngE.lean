/- The reading operations on a walk's values agree with Go's, the rest of them, and all of them ('tk_sound'). No condition. -/
import Derived.Test.YthbdglibakjfbaaDoorEngD
set_option linter.unusedSectionVars false
namespace Go.Eng
open Go.RowKit
variable [Inhabited Lo]
section
variable {P : Program} {c : Cx} {Z : Nat → Prop} {M : Nat → Option Nat} {s : St} {a : Act} {w w' : World}

theorem AR.c_ {v x : Value} (h : AR Z M w (.d (.c v)) x) : x = v ∧ v.oneCell' = true := by unfold AR DR at h; exact h
theorem AR.c_of {v : Value} (h : v.oneCell' = true) : AR Z M w (.d (.c v)) v := by unfold AR DR; exact ⟨rfl, h⟩
theorem intW_iff {v : AV} {x : Value} (hv : AR Z M w v x) {K : IntKind → Int → Prop} (h : intW v K) : ∃ k i, x = .int k i ∧ K k i := by
  unfold intW at h
  split at h
  · rename_i k i
    exact ⟨k, i, hv.c_.1, h⟩
  · exact h.elim
theorem boolW_iff {v : AV} {x : Value} (hv : AR Z M w v x) {K : Bool → Prop} (h : boolW v K) : ∃ i, x = .bool i ∧ K i := by
  unfold boolW at h
  split at h
  · exact ⟨_, hv.c_.1, h⟩
  · exact h.elim
theorem strW_iff {v : AV} {x : Value} (hv : AR Z M w v x) {K : ByteArray → Prop} (h : strW v K) : ∃ i, x = .string i ∧ K i := by
  unfold strW at h
  split at h
  · exact ⟨_, hv.c_.1, h⟩
  · exact h.elim

/-- what each arm of an operation that leaves an int, a bool or a string gives -/
def Runs (P : Program) (m : Sem Value) (y : Value) : Prop := ∀ w, m.run P w = .ok y w

theorem bin_sound {op : BinOp} {t : TypeId} {ox oy : Operand} {v u : AV} {x y : Value} (hv : AR Z M w v x) (hu : AR Z M w u y) {K : Value → Prop} (h : binW op v u K) :
    ∃ r, Runs P (do eqGuard op t ox oy x y; binOp op t x y) r ∧ r.oneCell' = true ∧ K r := by
  unfold binW at h
  split at h
  · rename_i k i k' j
    rw [hv.c_.1, hu.c_.1]
    have hg : ∀ w : World, (eqGuard op t ox oy (.int k i) (.int k' j)).run P w = .ok () w := by
      intro w; cases op <;> simp [eqGuard]
    unfold intBin at h
    cases op <;> simp only at h
    case shl => exact ⟨_, fun w => by have := Int.not_lt.2 h.1; simp [hg, binOp, Op.shift, this], rfl, h.2⟩
    case shr => exact ⟨_, fun w => by have := Int.not_lt.2 h.1; simp [hg, binOp, Op.shift, this], rfl, h.2⟩
    case quo => obtain ⟨rfl, h1, h2⟩ := h; exact ⟨_, fun w => by simp [hg, binOp, Op.intDiv, h1], rfl, h2⟩
    case rem => obtain ⟨rfl, h1, h2⟩ := h; exact ⟨_, fun w => by simp [hg, binOp, Op.intDiv, h1], rfl, h2⟩
    all_goals (obtain ⟨rfl, h2⟩ := h; exact ⟨_, fun w => by simp [hg, binOp, Op.intArith, Op.intBits, Op.intCmp, bits], rfl, h2⟩)
  · rename_i i j
    rw [hv.c_.1, hu.c_.1]
    have hg : ∀ w : World, (eqGuard op t ox oy (.string i) (.string j)).run P w = .ok () w := by
      intro w; cases op <;> simp [eqGuard]
    unfold strBin at h
    cases op <;> simp only at h
    case add => exact ⟨_, fun w => by
      have : ¬ ((i.size + j.size : Nat) : Int) > IntKind.i64.max := by have := h.1; simp [IntKind.max, IntKind.signed, IntKind.bits]; omega
      simp only [Sem.run_bind, hg, Result.andThen_ok, binOp, Op.stringOp, if_neg this]; rfl, rfl, h.2⟩
    all_goals first | exact h.elim | exact ⟨_, fun w => by simp [hg, binOp, Op.stringOp], rfl, h⟩
  · exact h.elim
theorem eqB_sound {neg : Bool} {t : TypeId} {ox oy : Operand} {x y : Bool} (ht : P.underlying t = some .bool) :
    Runs P (do eqGuard (if neg = true then .neq else .eql) t ox oy (.bool x) (.bool y); binOp (if neg = true then .neq else .eql) t (.bool x) (.bool y)) (.bool (if neg = true then !(x == y) else x == y)) := by
  have he : ∀ w, (Op.equal t (.bool x) (.bool y)).run P w = .ok (x == y) w := by
    intro w
    unfold Op.equal Op.maxDepth
    rw [Op.equalIn]
    simp [run_underlying ht]
  intro w
  cases neg
  · have hb : binOp .eql t (.bool x) (.bool y) = (do pure (.bool (← Op.equal t (.bool x) (.bool y)))) := rfl
    simp [eqGuard, hb, he]
  · have hb : binOp .neq t (.bool x) (.bool y) = (do pure (.bool (!(← Op.equal t (.bool x) (.bool y))))) := rfl
    simp [eqGuard, hb, he]
theorem isNilW_iff {v : AV} {x : Value} (hv : AR Z M w v x) {K : Bool → Prop} (h : isNilW v K) : ∃ ad n cap, x = .slice ad n cap ∧ K ad.isNone := by
  unfold isNilW at h
  split at h
  · exact ⟨none, 0, 0, hv.c_.1, h⟩
  · rename_i es L
    unfold AR DR at hv
    obtain ⟨ad, cap, rfl, _, _, hc⟩ := hv
    refine ⟨ad, _, cap, rfl, ?_⟩
    cases ad with
    | none =>
      refine h.1 (Decidable.byContradiction fun hn => ?_)
      obtain ⟨_, _, h, _⟩ := hc hn
      cases h
    | some ad => exact h.2
  · rename_i n es off len
    unfold AR at hv
    obtain ⟨ad, cap, rfl, hl, _, hc⟩ := hv
    refine ⟨ad, _, cap, rfl, ?_⟩
    cases ad with
    | none =>
      refine h.1 (Decidable.byContradiction fun hn => ?_)
      rcases hc (.inl (by omega)) with ⟨_, _, h⟩ | ⟨_, _, h, _⟩
      · omega
      · cases h
    | some ad => exact h.2
  · exact h.elim
theorem isNil_run {neg : Bool} {t e : TypeId} {ox oy : Operand} {ad : Option Addr} {n cap : Nat} (ht : P.underlying t = some (.slice e)) :
    Runs P (do eqGuard (if neg = true then .neq else .eql) t ox oy (.slice ad n cap) (.slice none 0 0); binOp (if neg = true then .neq else .eql) t (.slice ad n cap) (.slice none 0 0)) (.bool (if neg = true then !ad.isNone else ad.isNone)) := by
  have he : ∀ w, (Op.equal t (.slice ad n cap) (.slice none 0 0)).run P w = .ok ad.isNone w := by
    intro w
    unfold Op.equal Op.maxDepth
    rw [Op.equalIn]
    cases ad <;> simp [run_underlying ht]
  intro w
  cases neg
  · have hb : binOp .eql t (.slice ad n cap) (.slice none 0 0) = (do pure (.bool (← Op.equal t (.slice ad n cap) (.slice none 0 0)))) := rfl
    simp [eqGuard, hb, he]
  · have hb : binOp .neq t (.slice ad n cap) (.slice none 0 0) = (do pure (.bool (!(← Op.equal t (.slice ad n cap) (.slice none 0 0))))) := rfl
    simp [eqGuard, hb, he]
theorem isNilPW_iff {v : AV} {x : Value} (hv : AR Z M w v x) {K : Bool → Prop} (h : isNilPW v K) : ∃ ad, x = .pointer ad ∧ K ad.isNone := by
  unfold isNilPW at h
  split at h
  · exact ⟨none, hv.c_.1, h⟩
  · unfold AR DR at hv
    obtain ⟨b, off, rfl, _⟩ := hv
    exact ⟨_, rfl, h⟩
  · unfold AR at hv
    obtain ⟨b, _, rfl⟩ := hv
    exact ⟨_, rfl, h⟩
  · unfold AR at hv
    obtain ⟨b, _, rfl⟩ := hv
    exact ⟨_, rfl, h⟩
  · exact h.elim
theorem isNilP_run {neg : Bool} {t e : TypeId} {ox oy : Operand} {ad : Option Addr} (ht : P.underlying t = some (.pointer e)) :
    Runs P (do eqGuard (if neg = true then .neq else .eql) t ox oy (.pointer ad) (.pointer none); binOp (if neg = true then .neq else .eql) t (.pointer ad) (.pointer none)) (.bool (if neg = true then !ad.isNone else ad.isNone)) := by
  have he : ∀ w, (Op.equal t (.pointer ad) (.pointer none)).run P w = .ok ad.isNone w := by
    intro w
    unfold Op.equal Op.maxDepth
    rw [Op.equalIn]
    cases ad <;> simp [run_underlying ht]
  intro w
  cases neg
  · have hb : binOp .eql t (.pointer ad) (.pointer none) = (do pure (.bool (← Op.equal t (.pointer ad) (.pointer none)))) := rfl
    simp [eqGuard, hb, he]
  · have hb : binOp .neq t (.pointer ad) (.pointer none) = (do pure (.bool (!(← Op.equal t (.pointer ad) (.pointer none))))) := rfl
    simp [eqGuard, hb, he]
theorem un_sound {op : UnOp} {v : AV} {x : Value} (hv : AR Z M w v x) {K : Value → Prop} (h : unW op v K) : ∃ r, Runs P (Op.unary op x) r ∧ r.oneCell' = true ∧ K r := by
  unfold unW at h
  split at h
  · rw [hv.c_.1]; exact ⟨_, fun w => by simp [Op.unary, Op.intArith], rfl, h⟩
  · rw [hv.c_.1]; exact ⟨_, fun w => by simp [Op.unary, Op.intBits, bits], rfl, h⟩
  · rw [hv.c_.1]; exact ⟨_, fun w => by simp [Op.unary], rfl, h⟩
  · exact h.elim

theorem optW_iff (R : Rep c Z M s a w) {o : Option Operand} {dflt : Int} {K : Int → Prop} (h : optW s o dflt K) : (o = none ∧ K dflt) ∨ ∃ p k i, o = some p ∧ a.eval p = .int k i ∧ K i := by
  cases o with
  | none => exact .inl ⟨rfl, h⟩
  | some p =>
    obtain ⟨k, i, h1, h2⟩ := intW_iff (R.ev p) h
    exact .inr ⟨p, k, i, rfl, h1, h2⟩
/-- the bounds of a slice expression -/
theorem bounds_run (R : Rep c Z M s a w) {isS : Bool} {lo hi : Option Operand} {len cap : Nat} (hc : len ≤ cap) {K : Int → Int → Prop} (h : optW s hi len fun h => optW s lo 0 fun l => (0 ≤ l ∧ l ≤ h ∧ h ≤ len) ∧ K l h) :
    ∃ l h : Nat, l ≤ h ∧ h ≤ len ∧ K l h ∧ ∀ w, (Instr.sliceBounds isS len cap (lo.map a.eval) (hi.map a.eval) none).run P w = .ok (l, h, cap) w := by
  rcases optW_iff R h with ⟨h0, hz⟩ | ⟨p, k, i, h0, hp, hz⟩
  all_goals subst h0
  · rcases optW_iff (o := lo) R hz with ⟨rfl, h1, h2⟩ | ⟨q, k', j, rfl, hq, h1, h2⟩
    · exact ⟨0, len, by omega, Nat.le_refl _, h2, fun w => by simp [Instr.sliceBounds]⟩
    · obtain ⟨j, rfl⟩ := Int.eq_ofNat_of_zero_le h1.1
      exact ⟨j, len, by omega, Nat.le_refl _, h2, fun w => by simp [Instr.sliceBounds, Instr.sliceBound, hq, asIntOf, show j ≤ len from by omega]⟩
  · rcases optW_iff (o := lo) R hz with ⟨rfl, h1, h2⟩ | ⟨q, k', j, rfl, hq, h1, h2⟩
    · obtain ⟨i, rfl⟩ := Int.eq_ofNat_of_zero_le h1.2.1
      exact ⟨0, i, by omega, by omega, h2, fun w => by simp [Instr.sliceBounds, Instr.sliceBound, hp, asIntOf, show i ≤ cap from by omega]⟩
    · obtain ⟨j, rfl⟩ := Int.eq_ofNat_of_zero_le h1.1
      obtain ⟨i, rfl⟩ := Int.eq_ofNat_of_zero_le (Int.le_trans h1.1 h1.2.1)
      exact ⟨j, i, by omega, by omega, h2, fun w => by simp [Instr.sliceBounds, Instr.sliceBound, hp, hq, asIntOf, show i ≤ cap from by omega, show j ≤ i from by omega]⟩

theorem optW_mono {s : St} {o : Option Operand} {d : Int} {K K' : Int → Prop} (hk : ∀ i, K i → K' i) (h : optW s o d K) : optW s o d K' := by
  unfold optW at *
  cases o with
  | none => exact hk _ h
  | some o =>
    simp only at h ⊢
    unfold intW at *
    split at h <;> first | exact hk _ h | exact h.elim

theorem sub_row {es b : Nat} {L : List D} {off l n : Nat} (hr : DRrow Z w es b L off) (hn : l + n ≤ L.length) : DRrow Z w es b ((L.drop l).take n) (off + l * es) := by
  refine DRrow.of _ _ fun i hi => ?_
  have hi' : i < n ∧ l + i < L.length := by rw [List.length_take, List.length_drop] at hi; omega
  have := DRrow.get _ _ hr (l + i) hi'.2
  have e : ((L.drop l).take n).getD i default = L.getD (l + i) default := by
    simp only [List.getD, List.getElem?_take, if_pos hi'.1, List.getElem?_drop]
  rw [e, show off + l * es + i * es = off + (l + i) * es from by rw [Nat.add_mul]; omega]
  exact this

theorem slc_sound (R : Rep c Z M s a w) {t e : TypeId} {es : Nat} (ht : P.underlying t = some (.slice e)) (he : sizeT P e = some es) {lo hi : Option Operand} {v : AV} {x : Value} (hv : AR Z M w v x) {K : AV → Prop} (h : slcW s es v lo hi K) :
    ∃ u y, Runs P (Instr.sliceAt t x (lo.map a.eval) (hi.map a.eval) none) y ∧ AR Z M w u y ∧ K u := by
  have hsz : ∀ w, (sizeOf e).run P w = .ok es w := by
    intro w
    unfold sizeT at he
    cases hi : P.info? e with
    | none => simp [hi] at he
    | some i => simp only [hi, Option.map_some, Option.some.injEq] at he; simp [sizeOf, typeInfo, hi, he]
  have run : ∀ (ad : Option Addr) (len cap l h : Nat), (∀ w, (Instr.sliceBounds true len cap (lo.map a.eval) (hi.map a.eval) none).run P w = .ok (l, h, cap) w) →
      Runs P (Instr.sliceAt t (.slice ad len cap) (lo.map a.eval) (hi.map a.eval) none) (.slice (if cap = l then ad else ad.map (·.add (l * es))) (h - l) (cap - l)) := by
    intro ad len cap l h hb w
    simp [Instr.sliceAt, Instr.slice, run_underlying ht, hb, hsz]
  unfold slcW at h
  split at h
  · rename_i es' L
    unfold AR DR at hv
    obtain ⟨ad, cap, rfl, hl, hm, hc⟩ := hv
    have h' : optW s hi L.length fun h => optW s lo 0 fun l => (0 ≤ l ∧ l ≤ h ∧ h ≤ L.length) ∧ (es = es' ∧ K (.d (.lst es ((L.drop l.toNat).take (h.toNat - l.toNat))))) :=
      optW_mono (fun _ h => optW_mono (fun _ h => ⟨h.2.1, h.1, h.2.2⟩) h) h
    obtain ⟨l, r, h1, h2, ⟨rfl, hk⟩, hb⟩ := bounds_run R hl h'
    simp only [Int.toNat_natCast] at hk
    have hlen : ((L.drop l).take (r - l)).length = r - l := by rw [List.length_take, List.length_drop]; omega
    refine ⟨_, _, run ad L.length cap l r hb, ?_, hk⟩
    unfold AR DR
    refine ⟨_, cap - l, by rw [hlen], by rw [hlen]; omega, by omega, fun hne => ?_⟩
    rw [hlen] at hne
    obtain ⟨b, off, rfl, hz, hr⟩ := hc (by omega)
    refine ⟨b, off + l * es, ?_, hz, sub_row hr (by omega)⟩
    rw [if_neg (by omega)]
    simp [add_at]
  · rename_i n es' off len
    unfold AR at hv
    obtain ⟨ad, cap, rfl, hl, hm, hc⟩ := hv
    have h' : optW s hi len fun h => optW s lo 0 fun l => (0 ≤ l ∧ l ≤ h ∧ h ≤ len) ∧ (es = es' ∧ K (.sl n es (off + l.toNat) (h.toNat - l.toNat))) :=
      optW_mono (fun _ h => optW_mono (fun _ h => ⟨h.2.1, h.1, h.2.2⟩) h) h
    obtain ⟨l, r, h1, h2, ⟨rfl, hk⟩, hb⟩ := bounds_run R hl h'
    simp only [Int.toNat_natCast] at hk
    refine ⟨_, _, run ad len cap l r hb, ?_, hk⟩
    unfold AR
    refine ⟨_, cap - l, rfl, by omega, by omega, fun hne => ?_⟩
    rcases hc (by omega) with ⟨h3, rfl, h4⟩ | ⟨b, h3, rfl, h4⟩
    · exact .inl ⟨h3, by simp, by omega⟩
    · refine .inr ⟨b, h3, ?_, ?_⟩
      · by_cases hcl : cap = l
        · obtain rfl : l = 0 := by omega
          rw [if_pos hcl, Nat.add_zero]
        · rw [if_neg hcl]
          simp [add_at, Nat.add_mul]
      · rw [show off + l + (cap - l) = off + cap from by omega]; exact h4
  · have e := hv.c_.1
    subst e
    have h' : optW s hi (0 : Nat) fun h => optW s lo 0 fun l => (0 ≤ l ∧ l ≤ h ∧ h ≤ (0 : Nat)) ∧ K (.d (.c (.slice none 0 0))) := h
    obtain ⟨l, r, h1, h2, hk, hb⟩ := bounds_run (P := P) (isS := true) R (Nat.le_refl 0) h'
    obtain rfl : r = 0 := by omega
    obtain rfl : l = 0 := by omega
    exact ⟨_, _, run none 0 0 0 0 hb, by simpa using AR.c_of rfl, hk⟩
  · exact h.elim
theorem slcS_sound (R : Rep c Z M s a w) {t : TypeId} (ht : P.underlying t = some .string) {lo hi : Option Operand} {b : ByteArray} {K : AV → Prop}
    (h : optW s hi b.size fun h => optW s lo 0 fun l => (0 ≤ l ∧ l ≤ h ∧ h ≤ b.size) ∧ K (.d (.c (.string (b.extract l.toNat h.toNat))))) :
    ∃ u y, Runs P (Instr.sliceAt t (.string b) (lo.map a.eval) (hi.map a.eval) none) y ∧ AR Z M w u y ∧ K u := by
  obtain ⟨l, r, h1, h2, hk, hb⟩ := bounds_run (P := P) (isS := false) R (Nat.le_refl b.size) h
  simp only [Int.toNat_natCast] at hk
  exact ⟨_, _, fun w => by simp [Instr.sliceAt, Instr.slice, run_underlying ht, hb], AR.c_of rfl, hk⟩

theorem DRcs.drop {b : Nat} {cs : List D} {off n : Nat} (h : DRcs Z w b cs off) : DRcs Z w b (cs.drop n) (off + n) := by
  refine DRcs.of _ _ fun i hi => ?_
  rw [List.length_drop] at hi
  have := DRcs.get _ _ h (n + i) (by omega)
  have e : (cs.drop n).getD i default = cs.getD (n + i) default := by simp only [List.getD, List.getElem?_drop]
  rw [e, Nat.add_assoc]; exact this

theorem iadr_sound {t e : TypeId} {es : Nat} (ht : P.underlying t = some (.slice e)) (he : sizeT P e = some es) {v u : AV} {x y : Value} (hv : AR Z M w v x) (hu : AR Z M w u y) {K : AV → Prop} (h : iadrW es v u K) :
    ∃ r z, Runs P (Instr.indexAt t x y) z ∧ AR Z M w r z ∧ K r := by
  obtain ⟨k, i, rfl, h⟩ := intW_iff hu h
  have hsz : ∀ w, (sizeOf e).run P w = .ok es w := by
    intro w
    unfold sizeT at he
    cases hi : P.info? e with
    | none => simp [hi] at he
    | some i => simp only [hi, Option.map_some, Option.some.injEq] at he; simp [sizeOf, typeInfo, hi, he]
  have run : ∀ (b off len cap : Nat), 0 ≤ i ∧ i < len → Runs P (Instr.indexAt t (.slice (some ⟨b, off, none⟩) len cap) (.int k i)) (.pointer (some ⟨b, off + i.toNat * es, none⟩)) := by
    intro b off len cap hi w
    simp [Instr.indexAt, run_underlying ht, asIntOf, hi, hsz, add_at]
  split at h
  · rename_i es' L
    obtain ⟨hi, rfl, hk⟩ := h
    unfold AR DR at hv
    obtain ⟨ad, cap, rfl, hl, hm, hc⟩ := hv
    obtain ⟨b, off, rfl, hz, hr⟩ := hc (by omega)
    refine ⟨_, _, run b off _ cap hi, ?_, hk⟩
    obtain ⟨y, hy, hd⟩ := DRrow.get _ _ hr i.toNat (by omega)
    unfold AR DR
    refine ⟨b, off + i.toNat * es, rfl, hz, ?_⟩
    have hcs := hd.cells
    have hlen := DRs.len _ _ hcs
    refine DRcs.of _ _ fun j hj => ?_
    obtain ⟨q, hq, ho, hdq⟩ := DRs.get _ _ hcs j hj
    refine ⟨q, ?_, ho, hdq⟩
    rw [hy.2 j (by rw [← hy.1, ← Array.length_toList, hlen]; exact hj), ← hq]
    simp
  · rename_i n es' off len
    obtain ⟨hi, rfl, hk⟩ := h
    unfold AR at hv
    obtain ⟨ad, cap, rfl, hl, hm, hc⟩ := hv
    obtain ⟨b, h3, rfl, h4⟩ := (hc (by omega)).resolve_left (by omega)
    refine ⟨_, _, run b _ _ cap hi, ?_, hk⟩
    unfold AR
    exact ⟨b, h3, by rw [Nat.add_mul]; rfl⟩
  · exact h.elim
theorem iadrA_sound {t e : TypeId} {len es : Nat} (ht : P.underlying t = some (.array len e)) (he : sizeT P e = some es) {v u : AV} {x y : Value} (hv : AR Z M w v x) (hu : AR Z M w u y) {K : AV → Prop} (h : iadrAW len es v u K) :
    ∃ r z, Runs P (Instr.indexAt t x y) z ∧ AR Z M w r z ∧ K r := by
  obtain ⟨k, i, rfl, hi, h⟩ := intW_iff hu h
  have hsz : ∀ w, (sizeOf e).run P w = .ok es w := by
    intro w
    unfold sizeT at he
    cases hi : P.info? e with
    | none => simp [hi] at he
    | some i => simp only [hi, Option.map_some, Option.some.injEq] at he; simp [sizeOf, typeInfo, hi, he]
  have run : ∀ (b off : Nat), Runs P (Instr.indexAt t (.pointer (some ⟨b, off, none⟩)) (.int k i)) (.pointer (some ⟨b, off + i.toNat * es, none⟩)) := by
    intro b off w
    simp [Instr.indexAt, run_underlying ht, asIntOf, Instr.sureAddr, hi, hsz, add_at]
  split at h
  · unfold AR DR at hv
    obtain ⟨b, off, rfl, hz, hr⟩ := hv
    refine ⟨_, _, run b off, ?_, h⟩
    unfold AR DR
    exact ⟨b, _, rfl, hz, hr.drop⟩
  · unfold AR at hv
    obtain ⟨b, h3, rfl⟩ := hv
    refine ⟨_, _, run b _, ?_, h⟩
    unfold AR
    exact ⟨b, h3, rfl⟩
  · unfold AR at hv
    obtain ⟨b, h3, rfl⟩ := hv
    refine ⟨_, _, run b _, ?_, h⟩
    unfold AR
    exact ⟨b, h3, by rw [Nat.add_assoc]⟩
  · exact h.elim
theorem fadr_sound {t : TypeId} {fields : Array Field} {f : Nat} {fd : Field} {n : Nat} (ht : P.underlying t = some (.struct fields)) (hf : fields[f]? = some fd) (hn : sizeT P fd.type = some n) (h0 : n ≠ 0) {v : AV} {x : Value} (hv : AR Z M w v x) {K : AV → Prop} (h : fadrW fd.offset v K) :
    ∃ r z, Runs P (Instr.fieldAt t x f) z ∧ AR Z M w r z ∧ K r := by
  have hsz : ∀ w, (sizeOf fd.type).run P w = .ok n w := by
    intro w
    unfold sizeT at hn
    cases hi : P.info? fd.type with
    | none => simp [hi] at hn
    | some i => simp only [hi, Option.map_some, Option.some.injEq] at hn; simp [sizeOf, typeInfo, hi, hn]
  have run : ∀ (b off : Nat), Runs P (Instr.fieldAt t (.pointer (some ⟨b, off, none⟩)) f) (.pointer (some ⟨b, off + fd.offset, none⟩)) := by
    intro b off w
    simp [Instr.fieldAt, run_underlying ht, hf, Instr.sureAddr, fieldPlace, hsz, h0, add_at]
  unfold fadrW at h
  split at h
  · unfold AR DR at hv
    obtain ⟨b, off, rfl, hz, hr⟩ := hv
    refine ⟨_, _, run b off, ?_, h⟩
    unfold AR DR
    exact ⟨b, _, rfl, hz, hr.drop⟩
  · unfold AR at hv
    obtain ⟨b, h3, rfl⟩ := hv
    refine ⟨_, _, run b _, ?_, h⟩
    unfold AR
    exact ⟨b, h3, rfl⟩
  · unfold AR at hv
    obtain ⟨b, h3, rfl⟩ := hv
    refine ⟨_, _, run b _, ?_, h⟩
    unfold AR
    exact ⟨b, h3, by rw [Nat.add_assoc]⟩
  · exact h.elim
end
end Go.Eng

/- Operations that make or write memory, as they are on a walk's values ('doW'); calls of functions that are told by what they give ('Giv', 'GivO'). No condition. -/
import Derived.Test.YthbdglibakjfbaaDoorEngG
import Derived.Deep.Draws
set_option linter.unusedSectionVars false
namespace Go.Eng
open Go.RowKit
variable [Inhabited Lo]

/-! ### own objects that nobody writes any more -/
def slD (n es off len : Nat) (s : St) (K : St → D → Prop) : Prop := match s.hp n with
  | some (.row es' L) => n < 1000000 ∧ es = es' ∧ off + len ≤ L.length ∧ K (s.turn n (.ice es L)) (.lst es ((L.drop off).take len))
  | some (.ice es' L) => es = es' ∧ off + len ≤ L.length ∧ K s (.lst es ((L.drop off).take len))
  | _ => False
def allD : List AV → Option (List D)
  | [] => some []
  | .d x :: vs => (allD vs).map (x :: ·)
  | _ :: _ => none
def ptrD (n off : Nat) (s : St) (K : St → D → Prop) : Prop := match s.hp n with
  | some (.box cs) => match allD cs with
    | some ds => n < 1000000 ∧ K (s.turn n (.icb ds)) (.ref (ds.drop off))
    | none => False
  | some (.icb ds) => K s (.ref (ds.drop off))
  | _ => False
 mutual
def frzW : AV → St → (St → D → Prop) → Prop
  | .d x, s, K => K s x
  | .agg cs, s, K => frzL cs s fun s ds => K s (.agg ds)
  | .fn f cs, s, K => frzL cs s fun s ds => K s (.fn f ds)
  | .sl n es off len, s, K => slD n es off len s K
  | .ptr n off, s, K => ptrD n off s K
  | .eptr _ _ _ _, _, _ => False
  | .any, _, _ => False
  | .mp _, _, _ => False
  | .tup _, _, _ => False
def frzL : List AV → St → (St → List D → Prop) → Prop
  | [], s, K => K s []
  | v :: vs, s, K => frzW v s fun s d => frzL vs s fun s ds => K s (d :: ds)
end
def frzA : List Operand → St → (St → List D → Prop) → Prop
  | [], s, K => K s []
  | o :: os, s, K => frzW (ev s o) s fun s d => frzA os s fun s ds => K s (d :: ds)

/-- several arguments -/
def DRt (Z : Nat → Prop) (w : World) : List D → List Value → Prop
  | [], xs => xs = []
  | d :: ds, xs => ∃ x xs', xs = x :: xs' ∧ DR Z w d x ∧ DRt Z w ds xs'

section
variable {c : Cx} {Z Z' : Nat → Prop} {M M' : Nat → Option Nat} {s : St} {a : Act} {w w' : World}
theorem DRt.keep (k : Keeps Z Z' w w') : ∀ {ds : List D} {xs : List Value}, DRt Z w ds xs → DRt Z' w' ds xs
  | [], _, h => h
  | d :: ds, xs, h => by
    unfold DRt at h ⊢
    obtain ⟨x, xs', h0, h1, h2⟩ := h
    exact ⟨x, xs', h0, DR.keep k d x h1, DRt.keep k h2⟩
theorem stays_z (hz : ∀ b, Z b → Z' b) : Stays Z Z' M M w w none := ⟨⟨hz, fun _ _ _ => rfl⟩, fun _ _ _ h => h, fun _ _ h => h, fun _ _ _ _ _ h => h⟩
theorem allD_eq : ∀ {cs : List AV} {ds : List D}, allD cs = some ds → cs = ds.map .d
  | [], ds, h => by simp [allD] at h; subst h; rfl
  | v :: cs, ds, h => by
    cases v <;> simp only [allD] at h <;> try (cases h; done)
    rename_i x
    cases h' : allD cs with
    | none => simp [h'] at h
    | some es =>
      simp [h'] at h
      subst h
      rw [allD_eq h']
      rfl
theorem slD_sound {n es off len : Nat} (R : Rep c Z M s a w) {x : Value} (hv : AR Z M w (.sl n es off len) x) {K : St → D → Prop} (h : slD n es off len s K) :
    ∃ Z' s' d, (∀ b, Z b → Z' b) ∧ Rep c Z' M s' a w ∧ DR Z' w d x ∧ s'.tm = s.tm ∧ K s' d := by
  have key : ∀ (Z' : Nat → Prop) (L : List D), (∀ b, Z b → Z' b) → off + len ≤ L.length → OR Z' M w n (.ice es L) → DR Z' w (.lst es ((L.drop off).take len)) x := by
    intro Z' L hz hl ho
    unfold AR at hv
    obtain ⟨ad, cap, rfl, h1, h2, h3⟩ := hv
    have hlen : ((L.drop off).take len).length = len := by rw [List.length_take, List.length_drop]; omega
    unfold DR
    refine ⟨ad, cap, by rw [hlen], by rw [hlen]; exact h1, h2, fun hne => ?_⟩
    rw [hlen] at hne
    obtain ⟨b, h4, rfl, _⟩ := (h3 (by omega)).resolve_left (by omega)
    obtain ⟨_, ⟨h5, _⟩ | ⟨b', h5, h6, h7⟩⟩ := ho
    · rw [h4] at h5; cases h5
    · rw [h4] at h5; cases h5
      have := sub_row (l := off) (n := len) h7 hl
      exact ⟨b, off * es, rfl, h6, by simpa using this⟩
  unfold slD at h
  split at h
  · rename_i es' L hn
    obtain ⟨hI, rfl, hl, hk⟩ := h
    obtain ⟨Z', hz, R'⟩ := R.freeze n hn hI
    exact ⟨Z', _, _, hz, R', key Z' L hz hl (R'.ob n _ (by simp [St.turn])), rfl, hk⟩
  · rename_i es' L hn
    obtain ⟨rfl, hl, hk⟩ := h
    exact ⟨Z, s, _, fun _ h => h, R, key Z L (fun _ h => h) hl (R.ob n _ hn), rfl, hk⟩
  · exact h.elim
theorem ptrD_sound {n off : Nat} (R : Rep c Z M s a w) {x : Value} (hv : AR Z M w (.ptr n off) x) {K : St → D → Prop} (h : ptrD n off s K) :
    ∃ Z' s' d, (∀ b, Z b → Z' b) ∧ Rep c Z' M s' a w ∧ DR Z' w d x ∧ s'.tm = s.tm ∧ K s' d := by
  have key : ∀ (Z' : Nat → Prop) (ds : List D), (∀ b, Z b → Z' b) → OR Z' M w n (.icb ds) → DR Z' w (.ref (ds.drop off)) x := by
    intro Z' ds hz ho
    unfold AR at hv
    obtain ⟨b, h1, rfl⟩ := hv
    obtain ⟨b', h2, h3, h4⟩ := ho
    rw [h1] at h2; cases h2
    unfold DR
    exact ⟨b, off, rfl, h3, by simpa using h4.drop (n := off)⟩
  unfold ptrD at h
  split at h
  · rename_i cs hn
    split at h
    · rename_i ds hds
      obtain ⟨hI, hk⟩ := h
      rw [allD_eq hds] at hn
      obtain ⟨Z', hz, R'⟩ := R.freezeB n hn hI
      exact ⟨Z', _, _, hz, R', key Z' ds hz (R'.ob n _ (by simp [St.turn])), rfl, hk⟩
    · exact h.elim
  · rename_i ds hn
    exact ⟨Z, s, _, fun _ h => h, R, key Z ds (fun _ h => h) (R.ob n _ hn), rfl, h⟩
  · exact h.elim

 mutual
theorem frzW_sound : ∀ (v : AV) {s : St} {Z : Nat → Prop} (_ : Rep c Z M s a w) {x : Value} (_ : AR Z M w v x) {K : St → D → Prop} (_ : frzW v s K),
    ∃ Z' s' d, (∀ b, Z b → Z' b) ∧ Rep c Z' M s' a w ∧ DR Z' w d x ∧ s'.tm = s.tm ∧ K s' d
  | .d y, s, Z, R, x, hv, K, h => by
    unfold frzW at h; unfold AR at hv
    exact ⟨Z, s, y, fun _ h => h, R, hv, rfl, h⟩
  | .agg cs, s, Z, R, x, hv, K, h => by
    unfold frzW at h; unfold AR at hv
    obtain ⟨xs, rfl, hcs⟩ := hv
    obtain ⟨Z', s', ds, h1, h2, h3, h4, h5⟩ := frzL_sound cs R hcs h
    exact ⟨Z', s', _, h1, h2, by unfold DR; exact ⟨xs, rfl, h3⟩, h4, h5⟩
  | .fn f cs, s, Z, R, x, hv, K, h => by
    unfold frzW at h; unfold AR at hv
    obtain ⟨xs, rfl, hcs⟩ := hv
    obtain ⟨Z', s', ds, h1, h2, h3, h4, h5⟩ := frzL_sound cs R hcs h
    exact ⟨Z', s', _, h1, h2, by unfold DR; exact ⟨xs, rfl, h3⟩, h4, h5⟩
  | .sl n es off len, s, Z, R, x, hv, K, h => by
    unfold frzW at h
    exact slD_sound R hv h
  | .ptr n off, s, Z, R, x, hv, K, h => by
    unfold frzW at h
    exact ptrD_sound R hv h
  | .eptr _ _ _ _, s, Z, R, x, hv, K, h => by unfold frzW at h; exact h.elim
  | .any, s, Z, R, x, hv, K, h => by unfold frzW at h; exact h.elim
  | .mp _, s, Z, R, x, hv, K, h => by unfold frzW at h; exact h.elim
  | .tup _, s, Z, R, x, hv, K, h => by unfold frzW at h; exact h.elim
theorem frzL_sound : ∀ (vs : List AV) {s : St} {Z : Nat → Prop} (_ : Rep c Z M s a w) {xs : List Value} (_ : ARs Z M w vs xs) {K : St → List D → Prop} (_ : frzL vs s K),
    ∃ Z' s' ds, (∀ b, Z b → Z' b) ∧ Rep c Z' M s' a w ∧ DRs Z' w ds xs ∧ s'.tm = s.tm ∧ K s' ds
  | [], s, Z, R, xs, hv, K, h => by
    unfold frzL at h; unfold ARs at hv
    exact ⟨Z, s, [], fun _ h => h, R, by unfold DRs; exact hv, rfl, h⟩
  | v :: vs, s, Z, R, xs, hv, K, h => by
    unfold frzL at h; unfold ARs at hv
    obtain ⟨x, xs', rfl, h1, h2, h3⟩ := hv
    obtain ⟨Z1, s1, d, k1, k2, k3, k4, k5⟩ := frzW_sound v R h2 h
    obtain ⟨Z2, s2, ds, l1, l2, l3, l4, l5⟩ := frzL_sound vs k2 (ARs.keep (stays_z k1) h3) k5
    refine ⟨Z2, s2, d :: ds, fun b hb => l1 b (k1 b hb), l2, ?_, l4.trans k4, l5⟩
    unfold DRs
    exact ⟨x, xs', rfl, h1, DR.keep ⟨l1, fun _ _ _ => rfl⟩ d x k3, l3⟩
end
theorem ev_tm {s s' : St} (h : s'.tm = s.tm) (o : Operand) : ev s' o = ev s o := by
  cases o <;> simp only [ev, h]
theorem frzA_sound : ∀ (os : List Operand) {s : St} {Z : Nat → Prop} (_ : Rep c Z M s a w) {K : St → List D → Prop} (_ : frzA os s K),
    ∃ Z' s' ds, (∀ b, Z b → Z' b) ∧ Rep c Z' M s' a w ∧ DRt Z' w ds (os.map a.eval) ∧ s'.tm = s.tm ∧ K s' ds
  | [], s, Z, R, K, h => by
    unfold frzA at h
    exact ⟨Z, s, [], fun _ h => h, R, by unfold DRt; rfl, rfl, h⟩
  | o :: os, s, Z, R, K, h => by
    unfold frzA at h
    obtain ⟨Z1, s1, d, k1, k2, k3, k4, k5⟩ := frzW_sound _ R (R.ev o) h
    obtain ⟨Z2, s2, ds, l1, l2, l3, l4, l5⟩ := frzA_sound os k2 k5
    refine ⟨Z2, s2, d :: ds, fun b hb => l1 b (k1 b hb), l2, ?_, l4.trans k4, l5⟩
    simp only [List.map_cons]
    unfold DRt
    exact ⟨_, _, rfl, DR.keep ⟨l1, fun _ _ _ => rfl⟩ d _ k3, l3⟩
end

/-! ### functions -/
 mutual
/-- the same, every object's name n -/
def AV.ren (n : Nat) : AV → AV
  | .ptr _ o => .ptr n o
  | .eptr _ es i j => .eptr n es i j
  | .sl _ es o l => .sl n es o l
  | .agg cs => .agg (AV.renL n cs)
  | .tup vs => .tup (AV.renL n vs)
  | .fn f caps => .fn f (AV.renL n caps)
  | .mp _ => .mp n
  | .any => .any
  | .d x => .d x
def AV.renL (n : Nat) : List AV → List AV
  | [] => []
  | x :: xs => AV.ren n x :: AV.renL n xs
end
def Ob.ren (n : Nat) : Ob → Ob
  | .box cs => .box (AV.renL n cs)
  | .tab cs => .tab (AV.renL n cs)
  | o => o
 mutual
theorem AR.ren {Z : Nat → Prop} {M : Nat → Option Nat} {w : World} {n : Nat} : ∀ (v : AV) (x : Value), AR Z (fun _ => M n) w v x → AR Z M w (v.ren n) x
  | .ptr m o, x, h => by unfold AV.ren; unfold AR at h ⊢; exact h
  | .eptr m es i j, x, h => by unfold AV.ren; unfold AR at h ⊢; exact h
  | .sl m es o l, x, h => by unfold AV.ren; unfold AR at h ⊢; exact h
  | .mp m, x, h => by unfold AV.ren; unfold AR at h ⊢; exact h
  | .agg cs, x, h => by
    unfold AV.ren; unfold AR at h ⊢
    obtain ⟨xs, h0, h⟩ := h
    exact ⟨xs, h0, ARs.ren cs xs h⟩
  | .tup cs, x, h => by
    unfold AV.ren; unfold AR at h ⊢
    obtain ⟨xs, h0, h⟩ := h
    exact ⟨xs, h0, ARt.ren cs xs h⟩
  | .fn f cs, x, h => by
    unfold AV.ren; unfold AR at h ⊢
    obtain ⟨xs, h0, h⟩ := h
    exact ⟨xs, h0, ARs.ren cs xs h⟩
  | .any, x, h => by unfold AV.ren; unfold AR; trivial
  | .d y, x, h => by unfold AV.ren; unfold AR at h ⊢; exact h
theorem ARs.ren {Z : Nat → Prop} {M : Nat → Option Nat} {w : World} {n : Nat} : ∀ (vs : List AV) (xs : List Value), ARs Z (fun _ => M n) w vs xs → ARs Z M w (AV.renL n vs) xs
  | [], xs, h => by unfold AV.renL; unfold ARs at h ⊢; exact h
  | v :: vs, xs, h => by
    unfold AV.renL; unfold ARs at h ⊢
    obtain ⟨x, xs', h0, h1, h2, h3⟩ := h
    exact ⟨x, xs', h0, h1, AR.ren v x h2, ARs.ren vs xs' h3⟩
theorem ARt.ren {Z : Nat → Prop} {M : Nat → Option Nat} {w : World} {n : Nat} : ∀ (vs : List AV) (xs : List Value), ARt Z (fun _ => M n) w vs xs → ARt Z M w (AV.renL n vs) xs
  | [], xs, h => by unfold AV.renL; unfold ARt at h ⊢; exact h
  | v :: vs, xs, h => by
    unfold AV.renL; unfold ARt at h ⊢
    obtain ⟨x, xs', h0, h2, h3⟩ := h
    exact ⟨x, xs', h0, AR.ren v x h2, ARt.ren vs xs' h3⟩
end
theorem renL_len (n : Nat) : ∀ cs : List AV, (AV.renL n cs).length = cs.length
  | [] => rfl
  | c :: cs => by unfold AV.renL; rw [List.length_cons, List.length_cons, renL_len n cs]
theorem OR.ren {Z : Nat → Prop} {M : Nat → Option Nat} {w : World} {n : Nat} {o : Ob} (h : OR Z (fun _ => M n) w 0 o) : OR Z M w n (o.ren n) := by
  cases o with
  | box cs =>
    obtain ⟨b, xs, e, h1, h2, h3, h4⟩ := h
    exact ⟨b, xs, e, h1, h2, ARs.ren _ _ h3, h4⟩
  | row es L => exact h
  | ice es L => exact h
  | icb cs => exact h
  | map k L => exact h
  | itr t pos => exact h
  | tab cs =>
    obtain ⟨h1, h2⟩ | ⟨b, arr, e, h1, h2, h3, h4, h5⟩ := h
    · subst h2
      exact .inl ⟨h1, by unfold AV.renL; rfl⟩
    · refine .inr ⟨b, arr, e, h1, h2, by rw [renL_len]; exact h3, h4, ?_⟩
      rw [renL_len]
      exact ARs.ren _ _ h5

/-- what holds when a call of a function on data is over: the value as it is told, the world below as it was -/
structure Done (Z : Nat → Prop) (w : World) (Z' : Nat → Prop) (w' : World) : Prop where
  sub : ∀ b, Z b → Z' b
  new : ∀ b, Z' b → Z b ∨ w.heap.size ≤ b
  lt : ∀ b, Z' b → b < w'.heap.size
  below : Below w.heap.size w w'
/-- function f, of data, gives r (a function without a body of Go's own: the value at once) -/
def Giv (P : Program) (f : FuncId) (ds : List D) (r : AV) : Prop := (hasBody P f = true ∧ ∀ (Z : Nat → Prop) (w : World) (vs : List Value), (∀ b, Z b → b < w.heap.size) → Tw w → DRt Z w ds vs →
  Calls P f vs.toArray w fun e w' => ∃ v Z', e = .returned v ∧ Done Z w Z' w' ∧ ∀ M, AR Z' M w' r v) ∨
  ∀ (Z : Nat → Prop) (w : World) (vs : List Value), DRt Z w ds vs → ∃ v, (callFunc f vs.toArray).run P w = .ok (.value v) w ∧ ∀ M, AR Z M w r v
/-- the same, and what it gives stands in an object that is the caller's now (its name in r and o: 0) -/
def GivO (P : Program) (f : FuncId) (ds : List D) (r : AV) (o : Ob) : Prop := hasBody P f = true ∧ ∀ (Z : Nat → Prop) (w : World) (vs : List Value), (∀ b, Z b → b < w.heap.size) → Tw w → DRt Z w ds vs →
  Calls P f vs.toArray w fun e w' => ∃ v Z', e = .returned v ∧ Done Z w Z' w' ∧ ∃ m : Option Nat, (∀ b, m = some b → w.heap.size ≤ b) ∧ AR Z' (fun _ => m) w' r v ∧ OR Z' (fun _ => m) w' 0 o

/-! ### functions that write their caller's objects -/
 mutual
/-- the same, its objects named anew -/
def AV.rho (ρ : Nat → Nat) : AV → AV
  | .ptr n o => .ptr (ρ n) o
  | .eptr n es i j => .eptr (ρ n) es i j
  | .sl n es o l => .sl (ρ n) es o l
  | .agg cs => .agg (AV.rhoL ρ cs)
  | .tup vs => .tup (AV.rhoL ρ vs)
  | .fn f caps => .fn f (AV.rhoL ρ caps)
  | .mp n => .mp (ρ n)
  | .any => .any
  | .d x => .d x
def AV.rhoL (ρ : Nat → Nat) : List AV → List AV
  | [] => []
  | x :: xs => AV.rho ρ x :: AV.rhoL ρ xs
end
def Ob.rho (ρ : Nat → Nat) : Ob → Ob
  | .box cs => .box (AV.rhoL ρ cs)
  | .tab cs => .tab (AV.rhoL ρ cs)
  | o => o
 mutual
/-- it speaks of these objects only -/
def AV.okN (ns : List Nat) : AV → Bool
  | .ptr n _ => ns.contains n
  | .eptr n _ _ _ => ns.contains n
  | .sl n _ _ _ => ns.contains n
  | .agg cs => AV.okNL ns cs
  | .tup vs => AV.okNL ns vs
  | .fn _ caps => AV.okNL ns caps
  | .mp n => ns.contains n
  | .any => true
  | .d _ => true
def AV.okNL (ns : List Nat) : List AV → Bool
  | [] => true
  | x :: xs => AV.okN ns x && AV.okNL ns xs
end
def Ob.okN (ns : List Nat) : Ob → Bool
  | .box cs => AV.okNL ns cs
  | .row _ _ => true
  | .map _ _ => true
  | .itr _ _ => true
  | _ => false
 mutual
theorem AR.rho {Z : Nat → Prop} {M M2 : Nat → Option Nat} {w : World} {ρ : Nat → Nat} {ns : List Nat} (h : ∀ n, n ∈ ns → M n = M2 (ρ n)) : ∀ (v : AV) (x : Value), v.okN ns = true → (AR Z M w v x ↔ AR Z M2 w (v.rho ρ) x)
  | .ptr m o, x, k => by
    unfold AV.okN at k; unfold AV.rho; unfold AR; rw [h m (by simpa using k)]
  | .eptr m es i j, x, k => by
    unfold AV.okN at k; unfold AV.rho; unfold AR; rw [h m (by simpa using k)]
  | .sl m es o l, x, k => by
    unfold AV.okN at k; unfold AV.rho; unfold AR; rw [h m (by simpa using k)]
  | .mp m, x, k => by
    unfold AV.okN at k; unfold AV.rho; unfold AR; rw [h m (by simpa using k)]
  | .agg cs, x, k => by
    unfold AV.okN at k; unfold AV.rho; unfold AR
    constructor
    · rintro ⟨xs, h0, g⟩; exact ⟨xs, h0, (ARs.rho h cs xs k).1 g⟩
    · rintro ⟨xs, h0, g⟩; exact ⟨xs, h0, (ARs.rho h cs xs k).2 g⟩
  | .tup cs, x, k => by
    unfold AV.okN at k; unfold AV.rho; unfold AR
    constructor
    · rintro ⟨xs, h0, g⟩; exact ⟨xs, h0, (ARt.rho h cs xs k).1 g⟩
    · rintro ⟨xs, h0, g⟩; exact ⟨xs, h0, (ARt.rho h cs xs k).2 g⟩
  | .fn f cs, x, k => by
    unfold AV.okN at k; unfold AV.rho; unfold AR
    constructor
    · rintro ⟨xs, h0, g⟩; exact ⟨xs, h0, (ARs.rho h cs xs k).1 g⟩
    · rintro ⟨xs, h0, g⟩; exact ⟨xs, h0, (ARs.rho h cs xs k).2 g⟩
  | .any, x, k => by unfold AV.rho; unfold AR; exact Iff.rfl
  | .d y, x, k => by unfold AV.rho; unfold AR; exact Iff.rfl
theorem ARs.rho {Z : Nat → Prop} {M M2 : Nat → Option Nat} {w : World} {ρ : Nat → Nat} {ns : List Nat} (h : ∀ n, n ∈ ns → M n = M2 (ρ n)) : ∀ (vs : List AV) (xs : List Value), AV.okNL ns vs = true → (ARs Z M w vs xs ↔ ARs Z M2 w (AV.rhoL ρ vs) xs)
  | [], xs, k => by unfold AV.rhoL; unfold ARs; exact Iff.rfl
  | v :: vs, xs, k => by
    unfold AV.okNL at k
    simp only [Bool.and_eq_true] at k
    unfold AV.rhoL; unfold ARs
    constructor
    · rintro ⟨x, xs', h0, h1, h2, h3⟩; exact ⟨x, xs', h0, h1, (AR.rho h v x k.1).1 h2, (ARs.rho h vs xs' k.2).1 h3⟩
    · rintro ⟨x, xs', h0, h1, h2, h3⟩; exact ⟨x, xs', h0, h1, (AR.rho h v x k.1).2 h2, (ARs.rho h vs xs' k.2).2 h3⟩
theorem ARt.rho {Z : Nat → Prop} {M M2 : Nat → Option Nat} {w : World} {ρ : Nat → Nat} {ns : List Nat} (h : ∀ n, n ∈ ns → M n = M2 (ρ n)) : ∀ (vs : List AV) (xs : List Value), AV.okNL ns vs = true → (ARt Z M w vs xs ↔ ARt Z M2 w (AV.rhoL ρ vs) xs)
  | [], xs, k => by unfold AV.rhoL; unfold ARt; exact Iff.rfl
  | v :: vs, xs, k => by
    unfold AV.okNL at k
    simp only [Bool.and_eq_true] at k
    unfold AV.rhoL; unfold ARt
    constructor
    · rintro ⟨x, xs', h0, h2, h3⟩; exact ⟨x, xs', h0, (AR.rho h v x k.1).1 h2, (ARt.rho h vs xs' k.2).1 h3⟩
    · rintro ⟨x, xs', h0, h2, h3⟩; exact ⟨x, xs', h0, (AR.rho h v x k.1).2 h2, (ARt.rho h vs xs' k.2).2 h3⟩
end
theorem OR.rho {Z : Nat → Prop} {M M2 : Nat → Option Nat} {w : World} {ρ : Nat → Nat} {ns : List Nat} (h : ∀ n, n ∈ ns → M n = M2 (ρ n)) {n : Nat} (hn : n ∈ ns) {o : Ob} (k : o.okN ns = true) : OR Z M w n o ↔ OR Z M2 w (ρ n) (o.rho ρ) := by
  cases o with
  | box cs =>
    unfold Ob.okN at k
    unfold Ob.rho OR
    constructor
    · rintro ⟨b, xs, e, h1, h2, h3, h4⟩; exact ⟨b, xs, e, (h n hn) ▸ h1, h2, (ARs.rho h _ _ k).1 h3, h4⟩
    · rintro ⟨b, xs, e, h1, h2, h3, h4⟩; exact ⟨b, xs, e, (h n hn).symm ▸ h1, h2, (ARs.rho h _ _ k).2 h3, h4⟩
  | row es L => unfold Ob.rho OR; rw [h n hn]
  | map q L => unfold Ob.rho OR; rw [h n hn]
  | itr t pos => unfold Ob.rho OR; rw [h n hn]
  | tab cs => cases k
  | ice es L => cases k
  | icb cs => cases k
theorem Ob.rho_live (o : Ob) (ρ : Nat → Nat) : (o.rho ρ).live = o.live := by cases o <;> rfl
theorem Ob.okN_live {o : Ob} {ns : List Nat} (h : o.okN ns = true) : o.live = true := by cases o <;> first | rfl | cases h

/-- function f, of values that speak of the caller's objects 'obs' (their names from 1000000 on; from 2000000 on: those that stay where they are), gives r, and these objects are 'obs'' then (and new ones, their names below 1000000) -/
def GivM (P : Program) (f : FuncId) (args : List AV) (obs : List (Nat × Ob)) (r : AV) (obs' : List (Nat × Ob)) : Prop := hasBody P f = true ∧ ∀ (Z : Nat → Prop) (w : World) (M : Nat → Option Nat) (vs : List Value), (∀ b, Z b → b < w.heap.size) → Tw w → (∀ n b, M n = some b → ¬ Gl b) → ARt Z M w args vs →
  (∀ p, p ∈ obs → OR Z M w p.1 p.2) → (∀ n m b, n ∈ obs.map (·.1) → m ∈ obs.map (·.1) → M n = some b → M m = some b → n = m) → (∀ n, n ∉ obs.map (·.1) → M n = none) →
  Calls P f vs.toArray w fun e w' => ∃ v Z' M', e = .returned v ∧ (∀ b, Z b → Z' b) ∧ (∀ b, Z' b → Z b ∨ w.heap.size ≤ b) ∧ (∀ b, Z' b → b < w'.heap.size) ∧ Frm (fun b => ∃ n, M n = some b) w w' ∧ (∀ b k, room w b k → room w' b k) ∧
    AR Z' M' w' r v ∧ (∀ p, p ∈ obs' → OR Z' M' w' p.1 p.2) ∧ (∀ n m b, n ∈ obs'.map (·.1) → m ∈ obs'.map (·.1) → M' n = some b → M' m = some b → n = m) ∧
    (∀ n, n ∈ obs'.map (·.1) → ∀ b, M' n = some b → w.heap.size ≤ b ∨ M n = some b) ∧ ∀ n, 2000000 ≤ n → M' n = M n
/-- names, renamed -/
def rn : List (Nat × Nat) → Nat → Nat
  | [], n => n
  | (a, b) :: l, n => if n = a then b else rn l n
/-- what a caller has to look at: the objects are told apart; those that may move are such here too; none is one that a region has been promised -/
def mutB (l : List (Nat × Nat)) (args : List AV) (obs : List (Nat × Ob)) (r : AV) (obs' : List (Nat × Ob)) (prot : List Nat) : Bool :=
  AV.okNL (obs.map (·.1)) args && r.okN (obs'.map (·.1)) && (obs.all fun p => p.2.okN (obs.map (·.1))) && (obs'.all fun p => p.2.okN (obs'.map (·.1))) &&
  decide ((obs.map fun p => rn l p.1).Nodup) && decide ((obs'.map fun p => rn l p.1).Nodup) && (obs.all fun p => (obs'.map (·.1)).contains p.1) &&
  (obs'.all fun p => decide (2000000 ≤ p.1) && (obs.map (·.1)).contains p.1 || decide (p.1 < 2000000) && decide (rn l p.1 < 2000000)) && (obs'.all fun p => !prot.contains (rn l p.1))
def hpAll (l : List (Nat × Nat)) (s : St) : List (Nat × Ob) → Prop
  | [] => True
  | p :: ps => s.hp (rn l p.1) = some (p.2.rho (rn l)) ∧ hpAll l s ps
/-- the names of objects that may have moved -/
def mvs (l : List (Nat × Nat)) : List (Nat × Ob) → List Nat
  | [] => []
  | p :: ps => if p.1 < 2000000 then rn l p.1 :: mvs l ps else mvs l ps
def hpM (l : List (Nat × Nat)) : List (Nat × Ob) → Nat → Option Ob → Option Ob
  | [], _, o => o
  | p :: ps, m, o => if m = rn l p.1 then some (p.2.rho (rn l)) else hpM l ps m o
 mutual
/-- the same without these objects -/
def AV.killS (ns : List Nat) : AV → AV
  | .ptr m o => if m ∈ ns then .any else .ptr m o
  | .eptr m es i j => if m ∈ ns then .any else .eptr m es i j
  | .sl m es o l => if m ∈ ns then .any else .sl m es o l
  | .mp m => if m ∈ ns then .any else .mp m
  | .agg cs => .agg (AV.killSL ns cs)
  | .tup vs => .tup (AV.killSL ns vs)
  | .fn f caps => .fn f (AV.killSL ns caps)
  | .any => .any
  | .d x => .d x
def AV.killSL (ns : List Nat) : List AV → List AV
  | [] => []
  | x :: xs => AV.killS ns x :: AV.killSL ns xs
end
def Ob.killS (ns : List Nat) : Ob → Ob
  | .box cs => .box (AV.killSL ns cs)
  | .tab cs => .tab (AV.killSL ns cs)
  | o => o
/-- the caller's state behind such a call -/
def St.mut (s : St) (l : List (Nat × Nat)) (obs' : List (Nat × Ob)) : St := { tm := fun t => (s.tm t).killS (mvs l obs'), hp := fun m => hpM l obs' m ((s.hp m).map (Ob.killS (mvs l obs'))) }
/-- from a world to a later one: Z's blocks as they were, the objects (but those of ns) where they were, no smaller -/
structure StaysS (Z Z' : Nat → Prop) (M M' : Nat → Option Nat) (w w' : World) (ns : List Nat) : Prop extends Keeps Z Z' w w' where
  at_ : ∀ m, m ∉ ns → ∀ b, M m = some b → M' m = some b
  none_ : ∀ m, m ∉ ns → M m = none → M' m = none
  room : ∀ m b k, m ∉ ns → M m = some b → Eng.room w b k → Eng.room w' b k
section
variable {Z Z' : Nat → Prop} {w w' : World} {M M' : Nat → Option Nat} {ns : List Nat}
 mutual
theorem AR.killS (k : StaysS Z Z' M M' w w' ns) : ∀ (d : AV) (x : Value), AR Z M w d x → AR Z' M' w' (d.killS ns) x
  | .any, x, h => by unfold AV.killS; unfold AR; trivial
  | .mp m, x, h => by
    unfold AV.killS
    split
    · unfold AR; trivial
    · rename_i hm
      unfold AR at h ⊢
      obtain ⟨b, h1, h2⟩ := h
      exact ⟨b, k.at_ m hm b h1, h2⟩
  | .d y, x, h => by unfold AV.killS; unfold AR at h ⊢; exact DR.keep k.toKeeps y x h
  | .ptr m o, x, h => by
    unfold AV.killS
    split
    · unfold AR; trivial
    · rename_i hm
      unfold AR at h ⊢
      obtain ⟨b, h1, h2⟩ := h
      exact ⟨b, k.at_ m hm b h1, h2⟩
  | .eptr m es i j, x, h => by
    unfold AV.killS
    split
    · unfold AR; trivial
    · rename_i hm
      unfold AR at h ⊢
      obtain ⟨b, h1, h2⟩ := h
      exact ⟨b, k.at_ m hm b h1, h2⟩
  | .sl m es o l, x, h => by
    unfold AV.killS
    split
    · unfold AR; trivial
    · rename_i hm
      unfold AR at h ⊢
      obtain ⟨a, cap, h1, h2, h3, h4⟩ := h
      refine ⟨a, cap, h1, h2, h3, fun hc => ?_⟩
      rcases h4 hc with ⟨h5, h6⟩ | ⟨b, h5, h6, h7⟩
      · exact .inl ⟨k.none_ m hm h5, h6⟩
      · exact .inr ⟨b, k.at_ m hm b h5, h6, k.room m b _ hm h5 h7⟩
  | .agg cs, x, h => by
    unfold AV.killS; unfold AR at h ⊢
    obtain ⟨xs, hx, h⟩ := h
    exact ⟨xs, hx, ARs.killS k cs xs h⟩
  | .tup cs, x, h => by
    unfold AV.killS; unfold AR at h ⊢
    obtain ⟨xs, hx, h⟩ := h
    exact ⟨xs, hx, ARt.killS k cs xs h⟩
  | .fn f cs, x, h => by
    unfold AV.killS; unfold AR at h ⊢
    obtain ⟨xs, hx, h⟩ := h
    exact ⟨xs, hx, ARs.killS k cs xs h⟩
theorem ARs.killS (k : StaysS Z Z' M M' w w' ns) : ∀ (ds : List AV) (xs : List Value), ARs Z M w ds xs → ARs Z' M' w' (AV.killSL ns ds) xs
  | [], xs, h => by unfold AV.killSL; unfold ARs at h ⊢; exact h
  | d :: ds, xs, h => by
    unfold AV.killSL; unfold ARs at h ⊢
    obtain ⟨x, xs', h0, h1, h2, h3⟩ := h
    exact ⟨x, xs', h0, h1, AR.killS k d x h2, ARs.killS k ds xs' h3⟩
theorem ARt.killS (k : StaysS Z Z' M M' w w' ns) : ∀ (ds : List AV) (xs : List Value), ARt Z M w ds xs → ARt Z' M' w' (AV.killSL ns ds) xs
  | [], xs, h => by unfold AV.killSL; unfold ARt at h ⊢; exact h
  | d :: ds, xs, h => by
    unfold AV.killSL; unfold ARt at h ⊢
    obtain ⟨x, xs', h0, h2, h3⟩ := h
    exact ⟨x, xs', h0, AR.killS k d x h2, ARt.killS k ds xs' h3⟩
end
theorem Ob.killS_live (o : Ob) (ns : List Nat) : (o.killS ns).live = o.live := by cases o <;> rfl
theorem killSL_len (ns : List Nat) : ∀ cs : List AV, (AV.killSL ns cs).length = cs.length
  | [] => rfl
  | c :: cs => by unfold AV.killSL; rw [List.length_cons, List.length_cons, killSL_len ns cs]
theorem OR.stayS (k : StaysS Z Z' M M' w w' ns) {m : Nat} (hM : M' m = M m) {o : Ob} (h : OR Z M w m o) (hz : ∀ b, o.live = true → M m = some b → ¬ Z' b)
    (hb : ∀ b, o.live = true → M m = some b → w'.heap[b]? = w.heap[b]?) : OR Z' M' w' m (o.killS ns) := by
  cases o with
  | box cs =>
    obtain ⟨b, xs, e, h1, h2, h3, h4⟩ := h
    exact ⟨b, xs, e, hM.trans h1, (hb b rfl h1).trans h2, ARs.killS k _ _ h3, hz b rfl h1⟩
  | row es L =>
    obtain ⟨h0, ⟨h1, h2⟩ | ⟨b, arr, e, h1, h2, h3, h4, h5⟩⟩ := h
    · exact ⟨h0, .inl ⟨hM.trans h1, h2⟩⟩
    · exact ⟨h0, .inr ⟨b, arr, e, hM.trans h1, h2.tr (hb b rfl h1), h3, hz b rfl h1, DRrow.keep' k.toKeeps L 0 (fun o _ _ => cell_of_heap (hb b rfl h1) o) h5⟩⟩
  | ice es L =>
    obtain ⟨h0, ⟨h1, h2⟩ | ⟨b, h1, h2, h3⟩⟩ := h
    · exact ⟨h0, .inl ⟨hM.trans h1, h2⟩⟩
    · exact ⟨h0, .inr ⟨b, hM.trans h1, k.sub b h2, DRrow.keep k.toKeeps h2 L 0 h3⟩⟩
  | icb cs =>
    obtain ⟨b, h1, h2, h3⟩ := h
    exact ⟨b, hM.trans h1, k.sub b h2, DRcs.keep k.toKeeps h2 cs 0 h3⟩
  | map q L =>
    obtain ⟨b, es, cl, h1, h2, h3, h4, h5⟩ := h
    exact ⟨b, es, cl, hM.trans h1, (hb b rfl h1).trans h2, h3, h4, hz b rfl h1⟩
  | itr t pos =>
    obtain ⟨b, h1, h2, h3⟩ := h
    exact ⟨b, hM.trans h1, (hb b rfl h1).trans h2, hz b rfl h1⟩
  | tab cs =>
    obtain ⟨h1, h2⟩ | ⟨b, arr, e, h1, h2, h3, h4, h5⟩ := h
    · subst h2
      exact .inl ⟨hM.trans h1, by unfold AV.killSL; rfl⟩
    · refine .inr ⟨b, arr, e, hM.trans h1, h2.tr (hb b rfl h1), by rw [killSL_len]; exact h3, hz b rfl h1, ?_⟩
      rw [killSL_len]
      exact ARs.killS k _ _ h5
end
/-- the state may be told in other words (nothing is carried out); these objects' names are used anew -/
def Gh (tl : List Nat) (s : St) (vs : List AV) (s' : St) (vs' : List AV) : Prop := ∀ (c : Cx) (Z : Nat → Prop) (M : Nat → Option Nat) (a : Act) (w : World) (xs : List Value), Rep c Z M s a w → ARt Z M w vs xs →
  ∃ (Z' : Nat → Prop) (M' : Nat → Option Nat), (∀ b, Z b → Z' b) ∧ Rep c Z' M' s' a w ∧ ARt Z' M' w vs' xs ∧ (∀ n, n ∉ tl → M' n = M n) ∧ ∀ n, n ∈ tl → ∀ b, M' n = some b → ∃ m, m ∈ tl ∧ M m = some b
theorem Gh.refl (s : St) (vs : List AV) : Gh [] s vs s vs := fun _ Z M _ _ _ R h => ⟨Z, M, fun _ h => h, R, h, fun _ _ => rfl, fun _ h => by cases h⟩
/-- an own row may be told shorter -/
theorem Gh.cut {s : St} {vs : List AV} {n es : Nat} {L : List D} (k : Nat) (hn : s.hp n = some (.row es L)) : Gh [] s vs (s.turn n (.row es (L.take k))) vs := fun c Z M a w xs R h => by
  refine ⟨Z, M, fun _ h => h, ?_, h, fun _ _ => rfl, fun _ h => by cases h⟩
  have hO := R.ob n _ hn
  have key : OR Z M w n (.row es (L.take k)) := by
    obtain ⟨h0, ⟨h1, h2⟩ | ⟨b, arr, e, h1, h2, h3, h4, h5⟩⟩ := hO
    · exact ⟨h0, .inl ⟨h1, by rw [h2, List.take_nil]⟩⟩
    · refine ⟨h0, .inr ⟨b, arr, e, h1, h2, Nat.le_trans (Nat.mul_le_mul_right _ (by rw [List.length_take]; omega)) h3, h4, DRrow.of _ _ fun i hi => ?_⟩⟩
      rw [List.length_take] at hi
      obtain ⟨x, g1, g2⟩ := DRrow.get L 0 h5 i (by omega)
      refine ⟨x, g1, ?_⟩
      rw [show (L.take k).getD i default = L.getD i default by simp only [List.getD, List.getElem?_take_of_lt (show i < k by omega)]]
      exact g2
  have hlv : ∀ m, (s.turn n (.row es (L.take k))).live m → s.live m := fun m hm => by
    obtain ⟨o, h1, h2⟩ := hm
    by_cases e : m = n
    · subst e; exact ⟨_, hn, rfl⟩
    · exact ⟨o, by simpa [St.turn, e] using h1, h2⟩
  refine { R with tm := R.tm, ob := fun m o ho => ?_, dead := fun m hm => ?_, inj := fun m m' b h1 h2 => R.inj m m' b (hlv m h1) (hlv m' h2), own := fun m b h1 => R.own m b (hlv m h1) }
  · by_cases e : m = n
    · subst e
      have : o = .row es (L.take k) := by simpa [St.turn] using ho.symm
      rw [this]; exact key
    · exact R.ob m o (by simpa [St.turn, e] using ho)
  · by_cases e : m = n
    · subst e; simp [St.turn] at hm
    · exact R.dead m (by simpa [St.turn, e] using hm)
/-- a call of a function that writes its caller's objects -/
def callM (P : Program) (prot : List Nat) (f : FuncId) (avs : List AV) (d : Option Nat) (s : St) (K : St → Prop) : Prop := ∃ tl s1 avs1, Gh tl s avs s1 avs1 ∧ (∀ n, n ∈ tl → n ∉ prot) ∧
  ∃ l args obs r obs', GivM P f args obs r obs' ∧ mutB l args obs r obs' prot = true ∧ avs1 = AV.rhoL (rn l) args ∧ hpAll l s1 obs ∧ K ((s1.mut l obs').put d (r.rho (rn l)))
def vals (s : St) : List Operand → List AV
  | [] => []
  | o :: os => ev s o :: vals s os
def mW (P : Program) (prot : List Nat) (i : Ins) (d : Option Nat) (s : St) (K : St → Prop) : Prop := match i with
  | .callm f args => callM P prot f (vals s args) d s K
  | .callvm x args => match ev s x with
    | .fn f caps => callM P prot f (vals s args ++ caps) d s K
    | .d (.fn f caps) => callM P prot f (vals s args ++ caps.map .d) d s K
    | _ => False
  | _ => False

/-! ### what each writing operation does -/
def allLen (es : Nat) : List D → Prop
  | [] => True
  | d :: ds => d.cells.length = es ∧ allLen es ds
/-- an element, part of which is put anew -/
def D.upd (x : D) (es j size : Nat) (d : D) : D := if j = 0 ∧ size = es then d else .agg (spl x.cells j d.cells)
def stW (size : Nat) (p v : AV) (s : St) (K : St → Prop) : Prop := match p with
  | .ptr n off => match s.hp n with
    | some (.box cs) => v.cellsW fun xs => xs.length = size ∧ off + size ≤ cs.length ∧ K (s.turn n (.box (spl cs off xs)))
    | _ => False
  | .eptr n es i j => frzW v s fun s d => match s.hp n with
    | some (.row es' L) => es = es' ∧ d.cells.length = size ∧ i < L.length ∧ j + size ≤ es ∧ (L.getD i default).cells.length = es ∧ K (s.turn n (.row es (L.set i ((L.getD i default).upd es j size d))))
    | _ => False
  | _ => False
def srcW (s : St) (es : Nat) (v : AV) (K : List D → Prop) : Prop := match v with
  | .d (.lst es' L) => es = es' ∧ K L
  | .d (.c (.slice none 0 0)) => K []
  | .sl n es' off len => match s.hp n with
    | some (.row es'' L) => es = es' ∧ es = es'' ∧ off + len ≤ L.length ∧ K ((L.drop off).take len)
    | some (.ice es'' L) => es = es' ∧ es = es'' ∧ off + len ≤ L.length ∧ K ((L.drop off).take len)
    | _ => False
  | _ => False
def appB (n es by_ : Nat) (v : AV) (s : St) (L' : List D) (K : St → AV → Prop) : Prop := match v with
  | .sl m es' off len => match s.hp m with
    | some (.row es'' L) => es = es' ∧ es = es'' ∧ off = 0 ∧ len = L.length ∧ m < 2000000 ∧ (L.length + L'.length) * by_ ≤ 140737488355328 ∧ L.length + L'.length ≤ 9223372036854775807 ∧ K (s.renew m (.row es (L ++ L'))) (.sl m es 0 (L.length + L'.length))
    | _ => False
  | .d (.c (.slice none 0 0)) => L'.length * by_ ≤ 140737488355328 ∧ L'.length ≤ 9223372036854775807 ∧ K (s.renew n (.row es L')) (.sl n es 0 L'.length)
  | _ => False
def appW (n es by_ : Nat) (v u : AV) (s : St) (K : St → AV → Prop) : Prop := srcW s es u fun L' => appB n es by_ v s L' K

/-- a value that holds no place -/
def AV.flat : AV → Bool
  | .d (.c _) => true
  | _ => false
def AV.flats : AV → Bool
  | .tup vs => vs.all AV.flat
  | v => v.flat
theorem flat_AR {Z Z' : Nat → Prop} {M M' : Nat → Option Nat} {w w' : World} {v : AV} {x : Value} (hf : v.flat = true) (h : AR Z M w v x) : AR Z' M' w' v x := by
  unfold AV.flat at hf
  split at hf
  · unfold AR DR at h ⊢; exact h
  · cases hf
theorem flat_ARt {Z Z' : Nat → Prop} {M M' : Nat → Option Nat} {w w' : World} : ∀ {vs : List AV} {xs : List Value}, vs.all AV.flat = true → ARt Z M w vs xs → ARt Z' M' w' vs xs
  | [], _, _, h => by unfold ARt at h ⊢; exact h
  | v :: vs, _, hf, h => by
    simp only [List.all_cons, Bool.and_eq_true] at hf
    unfold ARt at h ⊢
    obtain ⟨x, xs', h1, h2, h3⟩ := h
    exact ⟨x, xs', h1, flat_AR hf.1 h2, flat_ARt hf.2 h3⟩
theorem flats_AR {Z Z' : Nat → Prop} {M M' : Nat → Option Nat} {w w' : World} {v : AV} {x : Value} (hf : v.flats = true) (h : AR Z M w v x) : AR Z' M' w' v x := by
  unfold AV.flats at hf
  split at hf
  · unfold AR at h ⊢
    obtain ⟨xs, h1, h2⟩ := h
    exact ⟨xs, h1, flat_ARt hf h2⟩
  · exact flat_AR hf h
def cpyO (o : Option Ob) (n off len : Nat) (s : St) (L' : List D) (K : St → Nat → Prop) : Prop := match o with
  | some (.row 1 L) => off + len ≤ L.length ∧ K (s.turn n (.row 1 (spl L off (L'.take len)))) (min L'.length len)
  | _ => False
def cpyB (v : AV) (s : St) (L' : List D) (K : St → Nat → Prop) : Prop := match v with
  | .sl n 1 off len => cpyO (s.hp n) n off len s L' K
  | _ => False
def mupO (o : Option Ob) (n : Nat) (k : IntKind) (z : Int) (x : Value) (s : St) (K : St → Prop) : Prop := match o with
  | some (.map k' L) => k = k' ∧ L.length < maxLen ∧ K (s.turn n (.map k (mset L z x)))
  | _ => False
def mupW (k : IntKind) (m key x : AV) (s : St) (K : St → Prop) : Prop := match m, key, x with
  | .mp n, .d (.c (.int k' z)), .d (.c x) => k' = k ∧ mupO (s.hp n) n k z x s K
  | _, _, _ => False
def cpyW (v u : AV) (s : St) (K : St → Nat → Prop) : Prop := srcW s 1 u fun L' => cpyB v s L' K
def bD (b : ByteArray) : List D := b.data.toList.map fun u => .c (.int .u8 (u.toNat : Nat))
def mrkO (o : Option Ob) (K : Prop) : Prop := match o with
  | some (.row 1 _) => K
  | _ => False
def mrkW (v : AV) (s : St) (K : AV → Prop) : Prop := match v with
  | .sl n 1 off len => 0 < len ∧ mrkO (s.hp n) (K (.sl n 1 off len))
  | _ => False
def cvBW (v : AV) (K : ByteArray → Prop) : Prop := match v with
  | .d (.c (.string b)) => K b
  | _ => False
def litRW (n : Nat) (v : AV) (s : St) (K : St → AV → Prop) : Prop := match v with
  | .sl m es off len => K (s.renew n (.tab (AV.killL (some n) [.sl m es off len]))) (.sl n 1 0 1)
  | _ => False
def appRO (o : Option Ob) (m by_ len : Nat) (s : St) (u : AV) (K : St → AV → Prop) : Prop := match o with
  | some (.tab cs) => len = cs.length ∧ m < 2000000 ∧ (cs.length + 1) * by_ ≤ 140737488355328 ∧ cs.length + 1 ≤ 9223372036854775807 ∧ K (s.renew m (.tab (AV.killL (some m) (cs ++ [u])))) (.sl m 1 0 (cs.length + 1))
  | _ => False
def appRB (n by_ : Nat) (v : AV) (s : St) (u : AV) (K : St → AV → Prop) : Prop := match v with
  | .sl m 1 0 len => appRO (s.hp m) m by_ len s u K
  | .d (.c (.slice none 0 0)) => by_ ≤ 140737488355328 ∧ K (s.renew n (.tab (AV.killL (some n) [u]))) (.sl n 1 0 1)
  | _ => False
def appRS (o : Option Ob) (n by_ : Nat) (v : AV) (s : St) (K : St → AV → Prop) : Prop := match o with
  | some (.tab [u]) => appRB n by_ v s u K
  | _ => False
def appRW (n by_ : Nat) (v x : AV) (s : St) (K : St → AV → Prop) : Prop := match x with
  | .sl m 1 0 1 => appRS (s.hp m) n by_ v s K
  | _ => False
def nxtO (o : Option Ob) (n : Nat) (s : St) (K : St → AV → Prop) : Prop := match o with
  | some (.itr t pos) => if pos < t.size then K (s.turn n (.itr t (pos + (Utf8.decode t pos).2))) (.tup [.d (.c (.bool true)), .d (.c (.int .i64 pos)), .d (.c (.int .i32 (Utf8.decode t pos).1))]) else K s (.tup [.d (.c (.bool false))])
  | _ => False
def nxtW (v : AV) (s : St) (K : St → AV → Prop) : Prop := match v with
  | .ptr n 0 => nxtO (s.hp n) n s K
  | _ => False
def doW (P : Program) (i : Ins) (d : Option Nat) (s : St) (K : St → Prop) : Prop := match i with
  | .lit es xs => frzA xs s fun s ds => allLen es ds ∧ K (s.put d (.d (.lst es ds)))
  | .litO n es xs => frzA xs s fun s ds => allLen es ds ∧ K ((s.renew n (.row es ds)).put d (.sl n es 0 ds.length))
  | .lit0 n es => K ((s.renew n (.row es [])).put d (.sl n es 0 0))
  | .mrk x => mrkW (ev s x) s fun r => K (s.put d r)
  | .cvB n x => cvBW (ev s x) fun b => b.size ≤ maxLen ∧ K ((s.renew n (.row 1 (bD b))).put d (.sl n 1 0 b.size))
  | .box n size x => (ev s x).cellsW fun cs => cs.length = size ∧ K ((s.renew n (.box (AV.killL (some n) cs))).put d (.ptr n 0))
  | .alloc n zero => K ((s.renew n (.box (zero.map fun v => .d (.c v)))).put d (.ptr n 0))
  | .mk n es by_ zero len cap => intW (ev s len) fun _ l => intW (ev s cap) fun _ cp => (0 ≤ l ∧ l ≤ cp ∧ by_ * cp ≤ 140737488355328 ∧ cp ≤ 9223372036854775807) ∧ K ((s.renew n (.row es (List.replicate l.toNat zero))).put d (.sl n es 0 l.toNat))
  | .st size p x => stW size (ev s p) (ev s x) s K
  | .app n es by_ v x => appW n es by_ (ev s v) (ev s x) s fun s r => K (s.put d r)
  | .appZ n es by_ z v x => intW (ev s x) fun _ l => (0 ≤ l ∧ l ≤ 9223372036854775807 ∧ l * by_ ≤ 140737488355328) ∧ appB n es by_ (ev s v) s (List.replicate l.toNat z) fun s r => K (s.put d r)
  | .cpy v x => cpyW (ev s v) (ev s x) s fun s m => K (s.put d (.d (.c (.int .i64 m))))
  | .mkm n k => K ((s.renew n (.map k [])).put d (.mp n))
  | .rng n x => cvBW (ev s x) fun b => K ((s.renew n (.itr b 0)).put d (.ptr n 0))
  | .nxt x => nxtW (ev s x) s fun s r => K (s.put d r)
  | .litR n x => litRW n (ev s x) s fun s r => K (s.put d r)
  | .appR n by_ v x => appRW n by_ (ev s v) (ev s x) s fun s r => K (s.put d r)
  | .mup k m key x => mupW k (ev s m) (ev s key) (ev s x) s K
  | .call n f args => frzA args s fun s' ds => (∃ r, Giv P f ds r ∧ K (s'.put d r)) ∨ (∃ r o, GivO P f ds r o ∧ K ((s'.renew n (o.ren n)).put d (r.ren n))) ∨ ∃ r, r.flats = true ∧ Giv P f ds r ∧ K (s.put d r)
  | .callv n x args => frzW (ev s x) s fun s1 g => match g with
    | .fn f caps => frzA args s1 fun s' ds => (∃ r, Giv P f (ds ++ caps) r ∧ K (s'.put d r)) ∨ (∃ r o, GivO P f (ds ++ caps) r o ∧ K ((s'.renew n (o.ren n)).put d (r.ren n))) ∨ ∃ r, r.flats = true ∧ Giv P f (ds ++ caps) r ∧ K (s.put d r)
    | _ => False
  | _ => False
end Go.Eng

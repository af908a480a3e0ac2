/- An own object gets another name; rows of rows. No condition but what each says. -/
import Derived.Test.YtlchakkdgkbabaaEngV
import Derived.Test.YtlchakkdgkbabaaEngW
set_option linter.unusedSimpArgs false
set_option linter.unusedVariables false
namespace Go.Eng
open Go.RowKit
def rnm (n m k : Nat) : Nat := if k = n then m else k
def AV.nam (n m : Nat) (v : AV) : AV := (v.kill (some m)).rho (rnm n m)
def Ob.nam (n m : Nat) (o : Ob) : Ob := (o.kill (some m)).rho (rnm n m)
/-- object n is called m; what was called m is forgotten -/
def St.nam (s : St) (n m : Nat) : St := { tm := fun t => (s.tm t).nam n m, hp := fun k => if k = n then none else if k = m then (s.hp n).map (Ob.nam n m) else (s.hp k).map (Ob.nam n m) }
def Mnam (M : Nat → Option Nat) (n m : Nat) : Nat → Option Nat := fun k => if k = n then none else if k = m then M n else M k
section
variable {Z : Nat → Prop} {M : Nat → Option Nat} {w : World} {n m : Nat}
theorem Mnam_rnm (hnm : n ≠ m) {k : Nat} (hk : k ≠ m) : Mnam M n m (rnm n m k) = M k := by
  unfold Mnam rnm
  by_cases h : k = n
  · rw [if_pos h, if_neg (Ne.symm hnm), if_pos rfl, h]
  · rw [if_neg h, if_neg h, if_neg hk]
 mutual
theorem AR.nam (hnm : n ≠ m) : ∀ (v : AV) (x : Value), AR Z M w v x → AR Z (Mnam M n m) w ((v.kill (some m)).rho (rnm n m)) x
  | .any, x, h => by unfold AV.kill AV.rho AR; trivial
  | .d y, x, h => by unfold AV.kill AV.rho; unfold AR at h ⊢; exact h
  | .ptr k o, x, h => by
    unfold AV.kill
    split
    · unfold AV.rho AR; trivial
    · rename_i hk
      unfold AV.rho; unfold AR at h ⊢
      rw [Mnam_rnm hnm (fun e => hk (by rw [e]))]
      exact h
  | .eptr k es i j, x, h => by
    unfold AV.kill
    split
    · unfold AV.rho AR; trivial
    · rename_i hk
      unfold AV.rho; unfold AR at h ⊢
      rw [Mnam_rnm hnm (fun e => hk (by rw [e]))]
      exact h
  | .sl k es o l, x, h => by
    unfold AV.kill
    split
    · unfold AV.rho AR; trivial
    · rename_i hk
      unfold AV.rho; unfold AR at h ⊢
      rw [Mnam_rnm hnm (fun e => hk (by rw [e]))]
      exact h
  | .mp k, x, h => by
    unfold AV.kill
    split
    · unfold AV.rho AR; trivial
    · rename_i hk
      unfold AV.rho; unfold AR at h ⊢
      rw [Mnam_rnm hnm (fun e => hk (by rw [e]))]
      exact h
  | .agg cs, x, h => by
    unfold AV.kill AV.rho; unfold AR at h ⊢
    obtain ⟨xs, h0, h⟩ := h
    exact ⟨xs, h0, ARs.nam hnm cs xs h⟩
  | .tup cs, x, h => by
    unfold AV.kill AV.rho; unfold AR at h ⊢
    obtain ⟨xs, h0, h⟩ := h
    exact ⟨xs, h0, ARt.nam hnm cs xs h⟩
  | .fn f cs, x, h => by
    unfold AV.kill AV.rho; unfold AR at h ⊢
    obtain ⟨xs, h0, h⟩ := h
    exact ⟨xs, h0, ARs.nam hnm cs xs h⟩
theorem ARs.nam (hnm : n ≠ m) : ∀ (vs : List AV) (xs : List Value), ARs Z M w vs xs → ARs Z (Mnam M n m) w (AV.rhoL (rnm n m) (AV.killL (some m) vs)) xs
  | [], xs, h => by unfold AV.killL AV.rhoL; unfold ARs at h ⊢; exact h
  | v :: vs, xs, h => by
    unfold AV.killL AV.rhoL; unfold ARs at h ⊢
    obtain ⟨x, xs', h0, h1, h2, h3⟩ := h
    exact ⟨x, xs', h0, h1, AR.nam hnm v x h2, ARs.nam hnm vs xs' h3⟩
theorem ARt.nam (hnm : n ≠ m) : ∀ (vs : List AV) (xs : List Value), ARt Z M w vs xs → ARt Z (Mnam M n m) w (AV.rhoL (rnm n m) (AV.killL (some m) vs)) xs
  | [], xs, h => by unfold AV.killL AV.rhoL; unfold ARt at h ⊢; exact h
  | v :: vs, xs, h => by
    unfold AV.killL AV.rhoL; unfold ARt at h ⊢
    obtain ⟨x, xs', h0, h2, h3⟩ := h
    exact ⟨x, xs', h0, AR.nam hnm v x h2, ARt.nam hnm vs xs' h3⟩
end
theorem rhoL_len (ρ : Nat → Nat) : ∀ cs : List AV, (AV.rhoL ρ cs).length = cs.length
  | [] => rfl
  | c :: cs => by unfold AV.rhoL; rw [List.length_cons, List.length_cons, rhoL_len ρ cs]
theorem OR.nam (hnm : n ≠ m) {k k' : Nat} (hk : Mnam M n m k' = M k) {o : Ob} (h : OR Z M w k o) : OR Z (Mnam M n m) w k' (Ob.nam n m o) := by
  cases o with
  | box cs =>
    obtain ⟨b, xs, e, h1, h2, h3, h4⟩ := h
    exact ⟨b, xs, e, hk.trans h1, h2, ARs.nam hnm _ _ h3, h4⟩
  | row es L =>
    obtain ⟨h0, ⟨h1, h2⟩ | ⟨b, arr, e, h1, h2⟩⟩ := h
    · exact ⟨h0, .inl ⟨hk.trans h1, h2⟩⟩
    · exact ⟨h0, .inr ⟨b, arr, e, hk.trans h1, h2⟩⟩
  | ice es L =>
    obtain ⟨h0, ⟨h1, h2⟩ | ⟨b, h1, h2⟩⟩ := h
    · exact ⟨h0, .inl ⟨hk.trans h1, h2⟩⟩
    · exact ⟨h0, .inr ⟨b, hk.trans h1, h2⟩⟩
  | icb cs =>
    obtain ⟨b, h1, h2⟩ := h
    exact ⟨b, hk.trans h1, h2⟩
  | map q L =>
    obtain ⟨b, es, cl, h1, h2⟩ := h
    exact ⟨b, es, cl, hk.trans h1, h2⟩
  | itr t pos =>
    obtain ⟨b, h1, h2⟩ := h
    exact ⟨b, hk.trans h1, h2⟩
  | tab cs =>
    obtain ⟨h1, h2⟩ | ⟨b, arr, e, h1, h2, h3, h4, h5⟩ := h
    · subst h2
      exact .inl ⟨hk.trans h1, rfl⟩
    · have hl : (AV.rhoL (rnm n m) (AV.killL (some m) cs)).length = cs.length := by rw [rhoL_len, killL_len]
      refine .inr ⟨b, arr, e, hk.trans h1, h2, by rw [hl]; exact h3, h4, ?_⟩
      rw [hl]
      exact ARs.nam hnm _ _ h5
theorem Ob.nam_live (o : Ob) (n m : Nat) : (Ob.nam n m o).live = o.live := by
  unfold Ob.nam
  rw [Ob.rho_live, Ob.kill_live]
end
/-- an own object gets another name -/
theorem Gh.nam {s : St} {vs : List AV} {n m : Nat} {o : Ob} (hnm : n ≠ m) (hn : n < 1000000) (hm : m < 1000000) (ho : s.hp n = some o) : Gh [n, m] s vs (s.nam n m) (AV.rhoL (rnm n m) (AV.killL (some m) vs)) := fun c Z M a w xs R hvs => by
  have hMn : ∀ k, k ≠ n → k ≠ m → Mnam M n m k = M k := fun k h1 h2 => by unfold Mnam; rw [if_neg h1, if_neg h2]
  have hMm : Mnam M n m m = M n := by unfold Mnam; rw [if_neg (Ne.symm hnm), if_pos rfl]
  have hM0 : Mnam M n m n = none := by unfold Mnam; rw [if_pos rfl]
  have hor : ∀ k, (s.nam n m).live k → ∃ k0, s.live k0 ∧ Mnam M n m k = M k0 ∧ k = rnm n m k0 ∧ k0 ≠ m := fun k hk => by
    obtain ⟨o', h1, h2⟩ := hk
    simp only [St.nam] at h1
    by_cases e1 : k = n
    · rw [if_pos e1] at h1; cases h1
    · rw [if_neg e1] at h1
      by_cases e2 : k = m
      · rw [if_pos e2, ho] at h1
        simp only [Option.map_some, Option.some.injEq] at h1
        subst h1
        rw [Ob.nam_live] at h2
        exact ⟨n, ⟨o, ho, h2⟩, by rw [e2, hMm], by unfold rnm; rw [if_pos rfl, e2], hnm⟩
      · rw [if_neg e2] at h1
        obtain ⟨o1, h3, h4⟩ := Option.map_eq_some_iff.1 h1
        subst h4
        rw [Ob.nam_live] at h2
        exact ⟨k, ⟨o1, h3, h2⟩, hMn k e1 e2, by unfold rnm; rw [if_neg e1], e2⟩
  refine ⟨Z, Mnam M n m, fun _ h => h, { R with tm := fun t => AR.nam hnm _ _ (R.tm t), ob := fun k o' hk => ?_, dead := fun k hk => ?_, inj := fun k1 k2 b l1 l2 e1 e2 => ?_, own := fun k b l e => ?_, fix := fun k hk => ?_ }, ARt.nam hnm _ _ hvs, fun k hk => ?_, fun k hk b hb => ?_⟩
  · simp only [St.nam] at hk
    by_cases e1 : k = n
    · rw [if_pos e1] at hk; cases hk
    · rw [if_neg e1] at hk
      by_cases e2 : k = m
      · rw [if_pos e2, ho] at hk
        simp only [Option.map_some, Option.some.injEq] at hk
        subst hk
        exact OR.nam hnm (by rw [e2, hMm]) (R.ob n o ho)
      · rw [if_neg e2] at hk
        obtain ⟨o1, h3, h4⟩ := Option.map_eq_some_iff.1 hk
        subst h4
        exact OR.nam hnm (hMn k e1 e2) (R.ob k o1 h3)
  · simp only [St.nam] at hk
    by_cases e1 : k = n
    · rw [e1, hM0]
    · rw [if_neg e1] at hk
      by_cases e2 : k = m
      · rw [if_pos e2, ho] at hk; cases hk
      · rw [if_neg e2] at hk
        rw [hMn k e1 e2]
        exact R.dead k (by simpa using hk)
  · obtain ⟨j1, a1, a2, a3, _⟩ := hor k1 l1
    obtain ⟨j2, b1, b2, b3, _⟩ := hor k2 l2
    rw [a2] at e1
    rw [b2] at e2
    rw [a3, b3, R.inj j1 j2 b a1 b1 e1 e2]
  · obtain ⟨j1, a1, a2, a3, _⟩ := hor k l
    rw [a2] at e
    rcases R.own j1 b a1 e with h | h
    · exact .inl h
    · by_cases e1 : j1 = n
      · rw [e1, R.m0 n hn] at h; cases h
      · rw [a3]
        unfold rnm
        rw [if_neg e1]
        exact .inr h
  · rw [hMn k (by omega) (by omega)]
    exact R.fix k hk
  · simp only [List.mem_cons, List.not_mem_nil, or_false, not_or] at hk
    exact hMn k hk.1 hk.2
  · simp only [List.mem_cons, List.not_mem_nil, or_false] at hk
    rcases hk with rfl | rfl
    · rw [hM0] at hb; cases hb
    · rw [hMm] at hb
      exact ⟨n, by simp, hb⟩
theorem nam_tm {s : St} {n m t : Nat} : (s.nam n m).tm t = ((s.tm t).kill (some m)).rho (rnm n m) := rfl
theorem nam_hp {s : St} {n m k : Nat} : (s.nam n m).hp k = if k = n then none else if k = m then (s.hp n).map (fun o => (o.kill (some m)).rho (rnm n m)) else (s.hp k).map (fun o => (o.kill (some m)).rho (rnm n m)) := rfl
theorem rnm_t {n m : Nat} : rnm n m n = m := if_pos rfl
theorem rnm_f {n m k : Nat} (h : ¬ k = n) : rnm n m k = k := if_neg h
/-- the rows of a table: so many, each an own object, named one behind the other -/
def rws (B len : Nat) : Nat → List AV
  | 0 => []
  | k + 1 => rws B len k ++ [.sl (B + k) 1 0 len]
theorem rws_len (B len : Nat) : ∀ k, (rws B len k).length = k
  | 0 => rfl
  | k + 1 => by rw [rws, List.length_append, rws_len B len k]; rfl
theorem rws_get (B len : Nat) : ∀ {k i : Nat}, i < k → (rws B len k).getD i .any = .sl (B + i) 1 0 len
  | 0, i, h => by omega
  | k + 1, i, h => by
    rw [rws]
    have hl := rws_len B len k
    by_cases e : i < k
    · simp only [List.getD, List.getElem?_append_left (show i < (rws B len k).length by omega)]
      exact rws_get B len e
    · obtain rfl : i = k := by omega
      simp only [List.getD, List.getElem?_append_right (show (rws B len i).length ≤ i by omega), hl, Nat.sub_self, List.getElem?_cons_zero, Option.getD_some]
theorem killL_app (q : Option Nat) : ∀ (xs ys : List AV), AV.killL q (xs ++ ys) = AV.killL q xs ++ AV.killL q ys
  | [], ys => by rw [AV.killL]; rfl
  | x :: xs, ys => by rw [List.cons_append, AV.killL, AV.killL, killL_app q xs ys]; rfl
theorem rhoL_app (ρ : Nat → Nat) : ∀ (xs ys : List AV), AV.rhoL ρ (xs ++ ys) = AV.rhoL ρ xs ++ AV.rhoL ρ ys
  | [], ys => by rw [AV.rhoL]; rfl
  | x :: xs, ys => by rw [List.cons_append, AV.rhoL, AV.rhoL, rhoL_app ρ xs ys]; rfl
theorem rws_kill (B len q : Nat) : ∀ {k : Nat}, (q < B ∨ B + k ≤ q) → AV.killL (some q) (rws B len k) = rws B len k
  | 0, _ => by rw [rws, AV.killL]
  | k + 1, h => by
    rw [rws, killL_app, rws_kill B len q (by omega), AV.killL, AV.killL, AV.kill, if_neg (by simp only [Option.some.injEq]; omega)]
theorem rws_rho (B len n m : Nat) : ∀ {k : Nat}, (n < B ∨ B + k ≤ n) → AV.rhoL (rnm n m) (rws B len k) = rws B len k
  | 0, _ => by rw [rws, AV.rhoL]
  | k + 1, h => by
    rw [rws, rhoL_app, rws_rho B len n m (by omega), AV.rhoL, AV.rhoL, AV.rho, rnm_f (by omega)]
end Go.Eng

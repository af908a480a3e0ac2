/- A nil slice in a cell of an own object, told as an own row of no elements ahead of a call. No condition but what each says. -/
import Derived.Test.YthbdglibakjfbaaDoorEngV
import Derived.Test.YthbdglibakjfbaaDoorEngW
set_option linter.unusedSimpArgs false
set_option linter.unusedVariables false
set_option linter.unusedSectionVars false
namespace Go.Eng
open Go.RowKit
variable [Inhabited Lo]
theorem Gh.nilB {s : St} {vs : List AV} {m i n es : Nat} {cs : List AV} (hmn : m ≠ n) (he : 0 < es) (hfx : n < 2000000) (hm : s.hp m = some (.box cs)) (hi : cs[i]? = some (.d (.c (.slice none 0 0)))) :
    Gh [n] s vs ((s.renew n (.row es [])).turn m (.box ((AV.killL (some n) cs).set i (.sl n es 0 0)))) (AV.killL (some n) vs) := fun c Z M a w xs R hvs => by
  have g : w.grownBy w none := ⟨rfl, rfl, rfl, Nat.le_refl _, fun _ _ _ => rfl⟩
  have R1 := R.renew n hfx (row := none) (o := .row es []) (M' := fun m => if m = n then none else M m) g (by simp) (fun m hm => by simp [hm]) ⟨he, .inl ⟨by simp, rfl⟩⟩ (fun b hb => by simp at hb)
  have hm1 : (s.renew n (.row es [])).hp m = some (.box (AV.killL (some n) cs)) := by simp [St.renew, hmn, hm, Ob.kill]
  obtain ⟨b, ys, e, g1, g2, g3, g4⟩ := R1.ob m _ hm1
  have hk : ∀ (l : List AV) (i : Nat) v, l[i]? = some v → (AV.killL (some n) l)[i]? = some (v.kill (some n)) := by
    intro l
    induction l with
    | nil => intro i v h; simp at h
    | cons x l ih =>
      intro i v h
      simp only [AV.killL]
      cases i with
      | zero => simp at h; subst h; rfl
      | succ i => simpa using ih i v (by simpa using h)
  obtain ⟨x, hx, _, hv⟩ := ARs.get _ _ g3 i _ (hk cs i _ hi)
  have hkd : AV.kill (some n) (.d (.c (.slice none 0 0))) = .d (.c (.slice none 0 0)) := by rw [AV.kill]
  rw [hkd] at hv
  refine ⟨Z, fun m => if m = n then none else M m, fun _ h => h, R1.turn m (b := b) (o := .box ((AV.killL (some n) cs).set i (.sl n es 0 0))) ⟨rfl, rfl, rfl, Nat.le_refl _, fun _ _ _ => rfl⟩ ⟨_, hm1, rfl⟩ g1 (fun _ h => h) ⟨b, ys, e, g1, g2, ARs.setAt g3 hx ?_, g4⟩, ?_, fun k hk => if_neg (by simpa using hk), fun k hk b hb => ?_⟩
  · unfold AR
    exact ⟨none, 0, hv.c_.1, Nat.le_refl _, Nat.zero_le _, fun _ => .inl ⟨by simp, rfl, rfl⟩⟩
  · refine ARt.kill ⟨?_, fun m hm b h => ?_, fun m hm h => ?_, fun _ _ _ _ _ h => h⟩ vs xs hvs
    · exact Keeps.refl Z w
    · rw [if_neg (fun e => hm (by rw [e]))]; exact h
    · rw [if_neg (fun e => hm (by rw [e]))]; exact h
  · simp at hk
    subst hk
    simp at hb
end Go.Eng

/- What the library's functions give, as data: a number's digits, a text so many times. No condition but what each says. -/
import Derived.Test.YtfighiceodplnaaDoorWShelf
import Derived.Test.YtfighiceodplnaaDoorLPad
import Derived.Lib.AppendIntMem
import Derived.Test.YtfighiceodplnaaDoorEngV
import Derived.Test.YtfighiceodplnaaDoorEngW
set_option linter.unusedSimpArgs false
set_option linter.unusedVariables false
set_option maxRecDepth 8000
set_option maxHeartbeats 4000000
namespace Go.Proofs.YtfighiceodplnaaDoor
open Go.Eng Go.RowKit
theorem drt_c {Z : Nat → Prop} {w : World} : ∀ {xs vs : List Value}, DRt Z w (xs.map D.c) vs → vs = xs
  | [], vs, h => by simpa only [List.map_nil, DRt] using h
  | x :: xs, vs, h => by
    simp only [List.map_cons, DRt] at h
    obtain ⟨y, ys, rfl, h1, h2⟩ := h
    unfold DR at h1
    rw [h1.1, drt_c h2]
theorem drt_of {Z : Nat → Prop} {w : World} : ∀ {xs : List Value}, (∀ x ∈ xs, x.oneCell' = true) → DRt Z w (xs.map D.c) xs
  | [], h => by simp only [List.map_nil, DRt]
  | x :: xs, h => by
    simp only [List.map_cons, DRt]
    exact ⟨x, xs, rfl, by unfold DR; exact ⟨rfl, h x (by simp)⟩, drt_of fun y hy => h y (by simp [hy])⟩
theorem giv_lib {P : Program} {f : FuncId} {xs rs : List Value} (hb : hasBody P f = true) (hr : ∀ x ∈ rs, x.oneCell' = true)
    (h : ∀ w, Tw w → Calls P f xs.toArray w fun e w' => e = .returned (retVal rs) ∧ Below w.heap.size w w') : Giv P f (xs.map D.c) (retV (rs.map D.c)) := by
  refine .inl ⟨hb, fun Z w vs hz ht hv => ?_⟩
  rw [drt_c hv]
  refine (h w ht).mono fun e w' ⟨he, hbl⟩ => ⟨_, Z, he, ⟨fun _ h => h, fun _ h => .inl h, fun b hb => Nat.lt_of_lt_of_le (hz b hb) hbl.size, hbl⟩, fun M => retV_AR (drt_of hr)⟩
theorem tw_below {w w' : World} (h : Tw w) (hb : Below w.heap.size w w') : Tw w' := h.keep fun b hg => hb.block b (h.lt hg)
theorem itoa_giv (u : Nat) (hu : u < 9223372036854775808) : Giv Tryd.prog 23 [.c (.int .i64 u)] (retV [.c (.string (strOfNums (dec u)))]) := by
  refine giv_lib (xs := [.int .i64 u]) (rs := [.string (strOfNums (dec u))]) (by kernel_rfl) (by simp [Value.oneCell']) fun w ht => ?_
  refine (Tryd.strconv_Itoa u (by omega) (by omega) w ht).mono fun e w' ⟨he, k, os, hw⟩ => ?_
  subst hw
  rw [Lib.itoa_nonneg, str_dec] at he
  exact ⟨he, Lib.below_grow _ _ (Nat.le_refl _) _ _⟩
theorem rep_zero : ∀ c : Nat, (⟨(Lib.repeatL (ub [48]) c).toArray⟩ : ByteArray) = strOfNums (List.replicate c 48) := fun c => by
  have e : Lib.repeatL (ub [48]) c = ub (List.replicate c 48) := by
    induction c with
    | zero => rfl
    | succ c ih =>
      rw [Lib.repeatL, ih, List.replicate_succ]
      rfl
  rw [e]
  unfold ub strOfNums
  simp
theorem rep_giv (c : Nat) (hc : c ≤ 1000) : Giv Tryd.prog 24 [.c (.string (strOfNums [48])), .c (.int .i64 c)] (retV [.c (.string (strOfNums (List.replicate c 48)))]) := by
  refine giv_lib (xs := [.string (strOfNums [48]), .int .i64 c]) (rs := [.string (strOfNums (List.replicate c 48))]) (by kernel_rfl) (by simp [Value.oneCell']) fun w ht => ?_
  refine (Tryd.strings_Repeat (strOfNums [48]) c w (by omega) (by rw [str_size]; simp; omega)).mono fun e w' ⟨he, hw⟩ => ⟨?_, hw⟩
  rw [str_ub, rep_zero] at he
  exact he
end Go.Proofs.YtfighiceodplnaaDoor

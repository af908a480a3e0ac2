/- What the library's functions give, as data: the first place of a byte, a product of two words, a number's digits, a text's number. No condition but what each says. -/
import Derived.Test.YtlonmloicafejaaDoorWFmt
import Derived.Test.YtlonmloicafejaaDoorLNum
import Derived.Test.YtlonmloicafejaaDoorEngV
import Derived.Test.YtlonmloicafejaaDoorEngW
set_option linter.unusedSimpArgs false
set_option linter.unusedVariables false
set_option maxRecDepth 8000
set_option maxHeartbeats 4000000
namespace Go.Proofs.YtlonmloicafejaaDoor
open Go.Eng Go.RowKit
theorem drt_c {Z : Nat → Prop} {w : World} : ∀ {xs vs : List Value}, DRt Z w (xs.map D.c) vs → vs = xs
  | [], vs, h => by simpa only [List.map_nil, DRt] using h
  | x :: xs, vs, h => by
    simp only [List.map_cons, DRt] at h
    obtain ⟨y, ys, rfl, h1, h2⟩ := h
    unfold DR at h1
    rw [h1.1, drt_c h2]
theorem drt_of {Z : Nat → Prop} {w : World} : ∀ {xs : List Value}, (∀ x ∈ xs, x.oneCell' = true) → DRt Z w (xs.map D.c) xs
  | [], h => by simp only [List.map_nil, DRt]
  | x :: xs, h => by
    simp only [List.map_cons, DRt]
    exact ⟨x, xs, rfl, by unfold DR; exact ⟨rfl, h x (by simp)⟩, drt_of fun y hy => h y (by simp [hy])⟩
theorem giv_lib {P : Program} {f : FuncId} {xs rs : List Value} (hb : hasBody P f = true) (hr : ∀ x ∈ rs, x.oneCell' = true)
    (h : ∀ w, Tw w → Calls P f xs.toArray w fun e w' => e = .returned (retVal rs) ∧ Below w.heap.size w w') : Giv P f (xs.map D.c) (retV (rs.map D.c)) := by
  refine .inl ⟨hb, fun Z w vs hz ht hv => ?_⟩
  rw [drt_c hv]
  refine (h w ht).mono fun e w' ⟨he, hbl⟩ => ⟨_, Z, he, ⟨fun _ h => h, fun _ h => .inl h, fun b hb => Nat.lt_of_lt_of_le (hz b hb) hbl.size, hbl⟩, fun M => retV_AR (drt_of hr)⟩
theorem tw_below {w w' : World} (h : Tw w) (hb : Below w.heap.size w w') : Tw w' := h.keep fun b hg => hb.block b (h.lt hg)
theorem fmt_giv (u : Nat) (hu : u < 18446744073709551616) : Giv Tryd.prog 33 [.c (.int .u64 u), .c (.int .i64 10)] (retV [.c (.string (strOfNums (dec u)))]) := by
  refine giv_lib (xs := [.int .u64 u, .int .i64 10]) (rs := [.string (strOfNums (dec u))]) (by kernel_rfl) (by simp [Value.oneCell']) fun w ht => ?_
  refine (formatUint_calls u hu w ht.1).mono fun e w' ⟨he, k, os, hw⟩ => ?_
  subst hw
  rw [str_dec] at he
  exact ⟨he, Lib.below_grow _ _ (Nat.le_refl _) _ _⟩
theorem itoa_giv (u : Nat) (hu : u < 9223372036854775808) : Giv Tryd.prog 13 [.c (.int .i64 u)] (retV [.c (.string (strOfNums (dec u)))]) := by
  refine giv_lib (xs := [.int .i64 u]) (rs := [.string (strOfNums (dec u))]) (by kernel_rfl) (by simp [Value.oneCell']) fun w ht => ?_
  refine (Tryd.strconv_Itoa u (by omega) (by omega) w ht.1).mono fun e w' ⟨he, k, os, hw⟩ => ?_
  subst hw
  rw [Lib.itoa_nonneg, str_dec] at he
  exact ⟨he, Lib.below_grow _ _ (Nat.le_refl _) _ _⟩
theorem str_one (c : Int) : strOfNums [c] = ⟨#[UInt8.ofNat c.toNat]⟩ := rfl
theorem idx_giv (l : List Int) (c : Int) (hb : Bytes l) (hc : 0 ≤ c ∧ c < 256) : Giv Tryd.prog 34 [.c (.string (strOfNums l)), .c (.string (strOfNums [c]))] (retV [.c (.int .i64 (fnd l c))]) := by
  refine giv_lib (xs := [.string (strOfNums l), .string (strOfNums [c])]) (rs := [.int .i64 (fnd l c)]) (by kernel_rfl) (by simp [Value.oneCell']) fun w ht => ?_
  rw [str_one]
  refine (Tryd.stringslite_Index_one (strOfNums l) (UInt8.ofNat c.toNat) w).mono fun e w' ⟨he, hw⟩ => ?_
  subst hw
  rw [str_ub, idx_fnd l c hb hc] at he
  exact ⟨he, Below.refl _ _⟩
theorem mul_giv (x y : Nat) (hx : x < 18446744073709551616) (hy : y < 18446744073709551616) : Giv Tryd.prog 22 [.c (.int .u64 x), .c (.int .u64 y)] (retV [.c (.int .u64 (x * y / 18446744073709551616 : Nat)), .c (.int .u64 (x * y % 18446744073709551616 : Nat))]) := by
  refine giv_lib (xs := [.int .u64 x, .int .u64 y]) (rs := [.int .u64 (x * y / 18446744073709551616 : Nat), .int .u64 (x * y % 18446744073709551616 : Nat)]) (by kernel_rfl) (by simp [Value.oneCell']) fun w ht => ?_
  refine (Tryd.bits_Mul64 x y hx hy w).mono fun e w' ⟨he, hw⟩ => ?_
  subst hw
  exact ⟨he, Below.refl _ _⟩
theorem below_bytes (w : World) (t : TypeId) (s : ByteArray) {w' : World} (h : w' = w ∨ w' = Lib.bytesWorld w t s) : Below w.heap.size w w' := by
  rcases h with rfl | rfl
  · exact Below.refl _ _
  · unfold Lib.bytesWorld
    exact Lib.below_freeze ((Below.drew (Below.refl _ w)).alloc (Nat.le_refl _) _) (p := ⟨w.heap.size, _, none⟩) (Nat.le_refl _) 1
theorem pu_giv (l : List Int) (hb : Bytes l) (hl : l.length ≤ 140737488355328) {u : Nat} (hu : numS l = some u) : Giv Tryd.prog 21 [.c (.string (strOfNums l)), .c (.int .i64 10), .c (.int .i64 32)] (retV [.c (.int .u64 u), .c .nilIface]) := by
  refine giv_lib (xs := [.string (strOfNums l), .int .i64 10, .int .i64 32]) (rs := [.int .u64 u, .nilIface]) (by kernel_rfl) (by simp [Value.oneCell']) fun w ht => ?_
  refine (Tryd.strconv_ParseUint_10_at32_ok (strOfNums l) (by rw [str_size]; omega) u (by rw [str_ub]; exact num_some hu) w).mono fun e w' ⟨he, hw⟩ => ?_
  exact ⟨he, below_bytes _ _ _ hw⟩
end Go.Proofs.YtlonmloicafejaaDoor

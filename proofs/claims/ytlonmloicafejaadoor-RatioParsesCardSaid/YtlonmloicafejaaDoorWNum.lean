/- A text's number: the program's 'number'. No condition but what each says. -/
import Derived.Test.YtlonmloicafejaaDoorWLib
set_option linter.unusedSimpArgs false
set_option linter.unusedVariables false
set_option maxRecDepth 100000
set_option maxHeartbeats 4000000
namespace Go.Proofs.YtlonmloicafejaaDoor
open Go.Eng Go.RowKit
theorem fmtP_calls (u : Nat) (hu : u < 18446744073709551616) (w : World) (ht : Tw w) : Calls Tryd.prog 27 #[.int .u64 u, .int .i64 10] w fun e w' => e = .returned (.string (strOfNums (dec u))) ∧ Below w.heap.size w w' := by
  go_enter Tryd.func27, Tryd.ntmps27
  go_wp2_with (first
    | (go_at_call 33; refine (formatUint_calls u hu w ht.1).mono ?_; rintro e w' ⟨rfl, k, os, rfl⟩))
  rw [str_dec]
  go_ret
  exact ⟨rfl, Lib.below_grow _ _ (Nat.le_refl _) _ _⟩
theorem fmtP_giv (u : Nat) (hu : u < 18446744073709551616) : Giv Tryd.prog 27 [.c (.int .u64 u), .c (.int .i64 10)] (retV [.c (.string (strOfNums (dec u)))]) :=
  giv_lib (xs := [.int .u64 u, .int .i64 10]) (rs := [.string (strOfNums (dec u))]) (by kernel_rfl) (by simp [Value.oneCell']) fun w ht => fmtP_calls u hu w ht
/-- the text is no row of digits -/
def badB (x : Lib.NumEnd Nat) : Prop := (∀ u, x ≠ .ok u) ∧ x ≠ .range
theorem pu_bad (s : ByteArray) (hlim : s.size ≤ 281474976710656) (h : badB (Lib.parseUintB 32 s.data.toList)) (tp : TypeId) (p : Value) (w : World) (hvar : w.var? Tryd.prog "strconv.ErrSyntax" = some #[.iface tp p]) :
    Calls Tryd.prog 21 #[.string s, .int .i64 10, .int .i64 32] w fun e w' => ∃ N, e = .returned (.tuple #[.int .u64 0, .iface 69 (.pointer (some ⟨N, 0, none⟩))]) ∧ w.heap.size ≤ N ∧ w'.heap[N]? = some (.cells #[.string ⟨#[80, 97, 114, 115, 101, 85, 105, 110, 116]⟩, .string s, .iface tp p] 80 (0, 0)) ∧ Below w.heap.size w w' := by
  rcases hp : Lib.parseUintB 32 s.data.toList with u | _ | _
  · rw [hp] at h; exact absurd rfl (h.1 u)
  · exact Any.strconv_ParseUint_10_at32_syntax_var Tryd.laysPu14 s hlim hp tp p w hvar
  · rw [hp] at h; exact absurd rfl h.2
theorem number_t (l : List Int) (hl : l.length ≤ 140737488355328) (w : World) (ht : Tw w) (u : Nat) (hu : u ≤ 4294967295) (hp : Lib.parseUintB 32 (strOfNums l).data.toList = .ok u) : Calls Tryd.prog 19 #[.string (strOfNums l)] w fun e w' => e = .returned (.tuple #[.int .u32 u, .bool ((strOfNums (dec u)).toList == (strOfNums l).toList)]) ∧ Below w.heap.size w w' := by
  have hw32 : IntKind.u32.wrap (u : Int) = u := by rw [IntKind.wrap_u32]; omega
  go_enter Tryd.func19, Tryd.ntmps19
  go_wp2_with (first
    | (go_at_call 21; refine (Tryd.strconv_ParseUint_10_at32_ok (strOfNums l) (by rw [str_size]; omega) u hp w).mono ?_; rintro e w1 ⟨rfl, hw⟩)
    | (go_at_call 27; have hb1 := Lib.hid (below_bytes w _ _ hw); clear hw; refine (fmtP_calls u (by omega) w1 (tw_below ht hb1.out)).mono ?_; rintro e w2 ⟨rfl, hw2⟩))
  exact bodyPost_ret (v := .tuple #[.int .u32 u, .bool ((strOfNums (dec u)).toList == (strOfNums l).toList)]) (by simp [results, Tryd.results19, go_sem]) rfl ⟨rfl, hb1.out.trans (hw2.mono hb1.out.size)⟩
theorem number_f (l : List Int) (hl : l.length ≤ 140737488355328) (w : World) (ht : Tw w) (hp : badB (Lib.parseUintB 32 (strOfNums l).data.toList)) : Calls Tryd.prog 19 #[.string (strOfNums l)] w fun e w' => e = .returned (.tuple #[.int .u32 0, .bool false]) ∧ Below w.heap.size w w' := by
  obtain ⟨_, ⟨tp, p, hv⟩, _⟩ := ht
  go_enter Tryd.func19, Tryd.ntmps19
  go_wp2_with (first
    | (go_at_call 21; refine (pu_bad (strOfNums l) (by rw [str_size]; omega) hp tp p w hv).mono ?_; rintro e w1 ⟨N, rfl, hN, _, hw⟩))
  exact bodyPost_ret (v := .tuple #[.int .u32 0, .bool false]) (by simp [results, Tryd.results19, go_sem]) rfl ⟨rfl, hw⟩
theorem number_r (l : List Int) (hl : l.length ≤ 140737488355328) (w : World) (ht : Tw w) (hp : Lib.parseUintB 32 (strOfNums l).data.toList = .range) : Calls Tryd.prog 19 #[.string (strOfNums l)] w fun e w' => e = .returned (.tuple #[.int .u32 4294967295, .bool false]) ∧ Below w.heap.size w w' := by
  obtain ⟨_, _, tp, p, hv⟩ := ht
  go_enter Tryd.func19, Tryd.ntmps19
  go_wp2_with (first
    | (go_at_call 21; refine (Tryd.strconv_ParseUint_10_at32_range_var (strOfNums l) (by rw [str_size]; omega) hp tp p w hv).mono ?_; rintro e w1 ⟨N, rfl, hN, _, hw⟩))
  exact bodyPost_ret (v := .tuple #[.int .u32 4294967295, .bool false]) (by simp [results, Tryd.results19, go_sem]) rfl ⟨rfl, hw⟩
/-- a text's number, and whether it is one -/
theorem number_giv (l : List Int) (hb : Bytes l) (hl : l.length ≤ 140737488355328) : ∃ v : Nat, v ≤ 4294967295 ∧ Giv Tryd.prog 19 [.c (.string (strOfNums l))] (retV [.c (.int .u32 v), .c (.bool (numS l).isSome)]) ∧ ∀ u, numS l = some u → v = u := by
  rcases hp : Lib.parseUintB 32 (strOfNums l).data.toList with u | _ | _
  · obtain ⟨h1, h2⟩ := num_ok hb (u := u) (by rw [← str_ub]; exact hp)
    refine ⟨u, h2, ?_, fun v hv => ?_⟩
    · refine giv_lib (xs := [.string (strOfNums l)]) (rs := [.int .u32 u, .bool (numS l).isSome]) (by kernel_rfl) (by simp [Value.oneCell']) fun w ht => (number_t l hl w ht u h2 hp).mono fun e w' ⟨he, hbl⟩ => ⟨?_, hbl⟩
      rw [he, str_beq (dec_bytes u) hb, h1]
      have : (if dec u = l then some u else none : Option Nat).isSome = decide (dec u = l) := by split <;> simp_all
      rw [this]
      rfl
    · rw [hv] at h1
      split at h1
      · injection h1 with h1; exact h1.symm
      · cases h1
  · have h1 := num_not (l := l) (fun u => by rw [← str_ub, hp]; intro c; cases c)
    refine ⟨0, by omega, ?_, fun v hv => by rw [h1] at hv; cases hv⟩
    refine giv_lib (xs := [.string (strOfNums l)]) (rs := [.int .u32 (0 : Nat), .bool (numS l).isSome]) (by kernel_rfl) (by simp [Value.oneCell']) fun w ht => (number_f l hl w ht (by rw [hp]; exact ⟨fun u c => (by cases c), fun c => (by cases c)⟩)).mono fun e w' ⟨he, hbl⟩ => ⟨?_, hbl⟩
    rw [he, h1]; rfl
  · have h1 := num_not (l := l) (fun u => by rw [← str_ub, hp]; intro c; cases c)
    refine ⟨4294967295, by omega, ?_, fun v hv => by rw [h1] at hv; cases hv⟩
    refine giv_lib (xs := [.string (strOfNums l)]) (rs := [.int .u32 (4294967295 : Nat), .bool (numS l).isSome]) (by kernel_rfl) (by simp [Value.oneCell']) fun w ht => (number_r l hl w ht hp).mono fun e w' ⟨he, hbl⟩ => ⟨?_, hbl⟩
    rw [he, h1]; rfl
end Go.Proofs.YtlonmloicafejaaDoor

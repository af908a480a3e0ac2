/- The statement 'LimitLengths': the given row is proved from the law's walk. It is proved for every input that the row speaks of. No further condition. -/
import Derived.Test.YtlchakkdgkbabaaLLengths
import Derived.Test.YtlchakkdgkbabaaRows
import Derived.Test.YtlchakkdgkbabaaChecked
import Derived.Test.YtlchakkdgkbabaaEngT
import Derived.ProofKit
import Derived.OpenShut
import Derived.ShutString
import Derived.ChangeOld
namespace Go.Proofs.Ytlchakkdgkbabaa.limitLengths
open Go.ChangeShapes Go.WideShapes Go.ChangeAt Go.RowKit Go.Shp Go.Eng
open Go.ChangeMaps (open_string shut_string)
set_option linter.unusedVariables false
set_option maxRecDepth 100000

theorem own : ownKnob Try.prog.godebug = none := by kernel_rfl
theorem laidOut : laidOutB Try.prog = true := by kernel_rfl

theorem shp22 {D' : Nat} {ds : List D} (h : Dk Try.prog (D' + 2) 22 ds) : ∃ y : List Int, ds = [.lst 1 (li .i64 y)] ∧ (y.length * 8 ≤ 140737488351232 ∧ ∀ z ∈ y, -9223372036854775808 ≤ z ∧ z ≤ 9223372036854775807) := by
  obtain ⟨x, rfl, hx, hy⟩ := dk_ints (by_ := 8) Try.underlying22 Try.underlying3 (by kernel_rfl) (by kernel_rfl) h
  exact ⟨x, rfl, hx, fun z hz => bounds_i64 (hy z hz)⟩

theorem shp3 {D' : Nat} {ds : List D} (h : Dk Try.prog (D' + 1) 3 ds) : ∃ y : Int, ds = [.c (.int .i64 y)] ∧ (-9223372036854775808 ≤ y ∧ y ≤ 9223372036854775807) := by
  obtain ⟨x, rfl, hx⟩ := dk_int Try.underlying3 h
  exact ⟨x, rfl, bounds_i64 hx⟩

set_option maxRecDepth 100000 in
theorem lifted (os : Os) (started : os.Started) (H : Type) (enc : TypeId × Value → H) :
    ReturnsInHanded {} Try.checked os 3 .any (Rows.limitLengthsSpec.pre6 enc Try.prog Try.f3 Rows.limitLengthsRow.domain false) (Rows.limitLengthsSpec.post enc Try.prog Try.f3 false true false false) := by
  refine returnsInHanded_of_change_sized (C := Try.checked) own started (by kernel_rfl) Try.func3
    (ChangeSpec.witness6 (enc := enc) (C := Try.checked) false ⟨#[], #[.slice none 0 0, .int .i64 0], []⟩ 8 (by kernel_rfl) (by kernel_rfl) (by kernel_rfl) (by kernel_rfl)) ?_
  intro W base args ds gs before hval0 hW hcnd hsz0 _
  have hval : ∀ (j : Nat) t v, Try.f3.params[j]? = some t → args[j]? = some v → Value.okWide Try.prog W .any base t v := hval0
  have hsz : (DataW.weightsEach Try.prog (Try.f3.params.toList ++ Rows.limitLengthsSpec.plain.varTypes Try.prog) (ds ++ gs)).all (· ≤ reachBytes) = true := hsz0
  have hW' := hW
  obtain ⟨p, q, hA0, hV, rfl, hfz, hnd⟩ := hW
  have hA : DataW.TrodAll enc Try.prog W 0 (fun _ => true) true Try.f3.params.toList args.toList ds p := hA0
  rw [Try.params3] at hA hval hsz
  obtain ⟨v0, vs0, d0, ds0, p0, q0, hargs, rfl, rfl, h0, r0⟩ := trodAll_cons hA
  obtain ⟨v1, vs1, d1, ds1, p1, q1, rfl, rfl, rfl, h1, r1⟩ := trodAll_cons r0
  obtain ⟨rfl, rfl, rfl⟩ := trodAll_nil r1
  obtain rfl : args = #[v0, v1] := by cases args; simp_all
  obtain ⟨rfl, rfl⟩ := trodVars_none hV
  have k0 := h0
  have lt0 : ∀ x ∈ p0, x.block < W.heap.size := by obtain ⟨m, hm⟩ := k0; exact DataW.trod_lt m _ _ _ hm
  have z0 := sees_arg (P := Try.prog) (w := W) hsz 0 (t := 22) rfl rfl h0 8
  obtain ⟨s0, hd0, hk0⟩ := data_of_sees 8 22 _ (by kernel_rfl) z0
  have u0 : v0.cells.toList = [v0] := by obtain ⟨q, ql, qc, hq⟩ := okWide_slice Try.underlying22 (hval 0 22 v0 rfl rfl); rw [hq]; rfl
  rw [u0] at hd0
  clear u0
  obtain ⟨y0, rfl, hp0⟩ := shp22 (D' := 6) hk0
  have dr0 : DR (fun b => b < W.heap.size) W _ _ := DR.of1 hd0
  have k1 := h1
  have lt1 : ∀ x ∈ p1, x.block < W.heap.size := by obtain ⟨m, hm⟩ := k1; exact DataW.trod_lt m _ _ _ hm
  have z1 := sees_arg (P := Try.prog) (w := W) hsz 1 (t := 3) rfl rfl h1 8
  obtain ⟨s1, hd1, hk1⟩ := data_of_sees 8 3 _ (by kernel_rfl) z1
  have u1 : v1.cells.toList = [v1] := by obtain ⟨q, hq⟩ := okWide_int Try.underlying3 (hval 1 3 v1 rfl rfl); rw [hq]; rfl
  rw [u1] at hd1
  clear u1
  obtain ⟨y1, rfl, hp1⟩ := shp3 (D' := 7) hk1
  have dr1 : DR (fun b => b < W.heap.size) W _ _ := DR.of1 hd1
  clear hA0 hval0 hsz0 hsz hval
  refine (Giv.calls (by kernel_rfl) (limitLengths_giv y0 hp0 y1 hp1) (w := W) (DRt.cons' dr0 (DRt.cons' dr1 DRt.nil'))).mono fun e W' ⟨he, bel⟩ => ?_
  subst he
  exact ⟨_, rfl, _, _, _, [], _, [], hW', trodAll_mk1 (shut_bool Try.underlying4 _), (trodAll_cons_mk (Below.trod laidOut (by kernel_rfl) (of_decide_eq_true (by kernel_rfl)) k0 bel lt0) (trodAll_cons_mk (Below.trod laidOut (by kernel_rfl) (of_decide_eq_true (by kernel_rfl)) k1 bel lt1) trodAll_mk0)), rfl, bel.frame _, fun h => by cases h⟩

theorem over : Rows.limitLengthsRow.holds Try.pinned (OpenSpec.ofChange Rows.limitLengthsSpec) :=
  OpenClaim.holds_of_wide 3 Try.f3 rfl rfl rfl rfl rfl rfl rfl ⟨rfl, rfl, rfl, rfl, rfl⟩ rfl rfl rfl rfl rfl (by kernel_rfl) Try.func3 (by kernel_rfl)
    (of_decide_eq_true (by kernel_rfl)) (by unfold Func.isWrapper; first | (rw [if_pos (by decide +kernel)]; kernel_rfl) | (rw [if_neg (by decide +kernel)]; exact ⟨rfl, rfl⟩))
    (fun os started H enc _ => lifted os started H enc)

theorem proved : Rows.LimitLengthsSaid := over
#print axioms proved
end Go.Proofs.Ytlchakkdgkbabaa.limitLengths

/- The statement 'OctetsLaws': the given row is proved from the law's walk. It is proved for every input that the row speaks of. No further condition. -/
import Derived.Test.YtochcepfljafoaaOctetsLawsWalk
import Derived.Test.YtochcepfljafoaaShape
import Derived.ProofKit
import Derived.OpenShut
import Derived.ShutString
import Derived.ChangeOld
namespace Go.Proofs.Ytochcepfljafoaa.octetsLaws
open Go.ChangeShapes Go.WideShapes Go.ChangeAt Go.RowKit Go.Shp
open Go.ChangeMaps (open_string shut_string)
set_option linter.unusedVariables false

theorem own : ownKnob Try.prog.godebug = none := by kernel_rfl
theorem laidOut : laidOutB Try.prog = true := by kernel_rfl

set_option maxRecDepth 100000 in
theorem lifted (os : Os) (started : os.Started) (H : Type) (enc : TypeId × Value → H) :
    ReturnsInHanded {} Try.checked os 6 .any (Rows.octetsLawsSpec.pre6 enc Try.prog Try.f6 Rows.octetsLawsRow.domain false) (Rows.octetsLawsSpec.post enc Try.prog Try.f6 false true false false) := by
  refine returnsInHanded_of_change_sized (C := Try.checked) own started (by kernel_rfl) Try.func6
    (ChangeSpec.witness6 (enc := enc) (C := Try.checked) false ⟨#[], #[.int .u64 0, .int .u64 0, .int .u64 0], []⟩ 8 (by kernel_rfl) (by kernel_rfl) (by kernel_rfl) (by kernel_rfl)) ?_
  intro W base args ds gs before hval0 hW hcnd hsz0 _
  have hval : ∀ (j : Nat) t v, Try.f6.params[j]? = some t → args[j]? = some v → Value.okWide Try.prog W .any base t v := hval0
  have hsz : (DataW.weightsEach Try.prog (Try.f6.params.toList ++ Rows.octetsLawsSpec.plain.varTypes Try.prog) (ds ++ gs)).all (· ≤ reachBytes) = true := hsz0
  have hW' := hW
  obtain ⟨p, q, hA0, hV, rfl, hfz, hnd⟩ := hW
  have hA : DataW.TrodAll enc Try.prog W 0 (fun _ => true) true Try.f6.params.toList args.toList ds p := hA0
  rw [Try.params6] at hA hval hsz
  obtain ⟨v0, vs0, d0, ds0, p0, q0, hargs, rfl, rfl, h0, r0⟩ := trodAll_cons hA
  obtain ⟨v1, vs1, d1, ds1, p1, q1, rfl, rfl, rfl, h1, r1⟩ := trodAll_cons r0
  obtain ⟨v2, vs2, d2, ds2, p2, q2, rfl, rfl, rfl, h2, r2⟩ := trodAll_cons r1
  obtain ⟨rfl, rfl, rfl⟩ := trodAll_nil r2
  obtain rfl : args = #[v0, v1, v2] := by cases args; simp_all
  obtain ⟨rfl, rfl⟩ := trodVars_none hV
  have k0 := h0
  have lt0 : ∀ x ∈ p0, x.block < W.heap.size := by obtain ⟨m, hm⟩ := k0; exact DataW.trod_lt m _ _ _ hm
  have z0 := sees_arg (P := Try.prog) (w := W) hsz 0 (t := 23) rfl rfl h0 7
  have u0 : v0.cells.toList = [v0] := by obtain ⟨q, hq⟩ := okWide_int Try.underlying23 (hval 0 23 v0 rfl rfl); rw [hq]; rfl
  rw [u0] at z0
  clear u0
  obtain ⟨x0, ex0, fx0⟩ := sees_int Try.underlying23 z0
  injection ex0 with ex0; subst ex0
  have k1 := h1
  have lt1 : ∀ x ∈ p1, x.block < W.heap.size := by obtain ⟨m, hm⟩ := k1; exact DataW.trod_lt m _ _ _ hm
  have z1 := sees_arg (P := Try.prog) (w := W) hsz 1 (t := 23) rfl rfl h1 7
  have u1 : v1.cells.toList = [v1] := by obtain ⟨q, hq⟩ := okWide_int Try.underlying23 (hval 1 23 v1 rfl rfl); rw [hq]; rfl
  rw [u1] at z1
  clear u1
  obtain ⟨x1, ex1, fx1⟩ := sees_int Try.underlying23 z1
  injection ex1 with ex1; subst ex1
  have k2 := h2
  have lt2 : ∀ x ∈ p2, x.block < W.heap.size := by obtain ⟨m, hm⟩ := k2; exact DataW.trod_lt m _ _ _ hm
  have z2 := sees_arg (P := Try.prog) (w := W) hsz 2 (t := 23) rfl rfl h2 7
  have u2 : v2.cells.toList = [v2] := by obtain ⟨q, hq⟩ := okWide_int Try.underlying23 (hval 2 23 v2 rfl rfl); rw [hq]; rfl
  rw [u2] at z2
  clear u2
  obtain ⟨x2, ex2, fx2⟩ := sees_int Try.underlying23 z2
  injection ex2 with ex2; subst ex2
  clear hA0 hval0 hsz0 hsz hval
  refine (octetsLaws_walk W x0 (bounds_u64 fx0) x1 (bounds_u64 fx1) x2 (bounds_u64 fx2)).mono fun e W' ⟨he, bel⟩ => ?_
  subst he
  exact ⟨_, rfl, _, _, _, [], _, [], hW', trodAll_mk1 (shut_bool Try.underlying4 _), (trodAll_cons_mk (Below.trod laidOut (by kernel_rfl) (of_decide_eq_true (by kernel_rfl)) k0 bel lt0) (trodAll_cons_mk (Below.trod laidOut (by kernel_rfl) (of_decide_eq_true (by kernel_rfl)) k1 bel lt1) (trodAll_cons_mk (Below.trod laidOut (by kernel_rfl) (of_decide_eq_true (by kernel_rfl)) k2 bel lt2) trodAll_mk0))), rfl, bel.frame _, fun h => by cases h⟩

theorem over : Rows.octetsLawsRow.holds Try.pinned (OpenSpec.ofChange Rows.octetsLawsSpec) :=
  OpenClaim.holds_of_wide 6 Try.f6 rfl rfl rfl rfl rfl rfl rfl ⟨rfl, rfl, rfl, rfl, rfl⟩ rfl rfl rfl rfl rfl (by kernel_rfl) Try.func6 (by kernel_rfl)
    (of_decide_eq_true (by kernel_rfl)) (by unfold Func.isWrapper; first | (rw [if_pos (by decide +kernel)]; kernel_rfl) | (rw [if_neg (by decide +kernel)]; exact ⟨rfl, rfl⟩))
    (fun os started H enc _ => lifted os started H enc)

theorem proved : Rows.OctetsLawsSaid := over
#print axioms proved
end Go.Proofs.Ytochcepfljafoaa.octetsLaws

/- The statement 'OctetsWindows': the given row is proved from the law's walk. It is proved for every input that the row speaks of. No further condition. -/
import Derived.Test.YtochcepfljafoaaOctetsWindowsWalk
import Derived.Test.YtochcepfljafoaaShape
import Derived.ProofKit
import Derived.OpenShut
import Derived.ShutString
import Derived.ChangeOld
namespace Go.Proofs.Ytochcepfljafoaa.octetsWindows
open Go.ChangeShapes Go.WideShapes Go.ChangeAt Go.RowKit Go.Shp
open Go.ChangeMaps (open_string shut_string)
set_option linter.unusedVariables false

theorem own : ownKnob Try.prog.godebug = none := by kernel_rfl
theorem laidOut : laidOutB Try.prog = true := by kernel_rfl

theorem array_of_size4 {cs : Array Value} (h : cs.size = 4) : ∃ c0 c1 c2 c3, cs = #[c0, c1, c2, c3] := by
  obtain ⟨l⟩ := cs
  match l, h with
  | [c0, c1, c2, c3], _ => exact ⟨c0, c1, c2, c3, rfl⟩

set_option maxRecDepth 100000 in
theorem lifted (os : Os) (started : os.Started) (H : Type) (enc : TypeId × Value → H) :
    ReturnsInHanded {} Try.checked os 3 .any (Rows.octetsWindowsSpec.pre6 enc Try.prog Try.f3 Rows.octetsWindowsRow.domain false) (Rows.octetsWindowsSpec.post enc Try.prog Try.f3 false true false false) := by
  refine returnsInHanded_of_change_sized (C := Try.checked) own started (by kernel_rfl) Try.func3
    (ChangeSpec.witness6 (enc := enc) (C := Try.checked) false ⟨#[], #[.slice none 0 0, .agg #[.int .u64 0, .int .u64 0, .int .i64 0, .bool false]], []⟩ 8 (by kernel_rfl) (by kernel_rfl) (by kernel_rfl) (by kernel_rfl)) ?_
  intro W base args ds gs before hval0 hW hcnd hsz0 _
  have hval : ∀ (j : Nat) t v, Try.f3.params[j]? = some t → args[j]? = some v → Value.okWide Try.prog W .any base t v := hval0
  have hsz : (DataW.weightsEach Try.prog (Try.f3.params.toList ++ Rows.octetsWindowsSpec.plain.varTypes Try.prog) (ds ++ gs)).all (· ≤ reachBytes) = true := hsz0
  have hW' := hW
  obtain ⟨p, q, hA0, hV, rfl, hfz, hnd⟩ := hW
  have hA : DataW.TrodAll enc Try.prog W 0 (fun _ => true) true Try.f3.params.toList args.toList ds p := hA0
  rw [Try.params3] at hA hval hsz
  obtain ⟨v0, vs0, d0, ds0, p0, q0, hargs, rfl, rfl, h0, r0⟩ := trodAll_cons hA
  obtain ⟨v1, vs1, d1, ds1, p1, q1, rfl, rfl, rfl, h1, r1⟩ := trodAll_cons r0
  obtain ⟨rfl, rfl, rfl⟩ := trodAll_nil r1
  obtain rfl : args = #[v0, v1] := by cases args; simp_all
  obtain ⟨rfl, rfl⟩ := trodVars_none hV
  have k0 := h0
  have lt0 : ∀ x ∈ p0, x.block < W.heap.size := by obtain ⟨m, hm⟩ := k0; exact DataW.trod_lt m _ _ _ hm
  have z0 := sees_arg (P := Try.prog) (w := W) hsz 0 (t := 22) rfl rfl h0 7
  have u0 : v0.cells.toList = [v0] := by obtain ⟨q, ql, qc, hq⟩ := okWide_slice Try.underlying22 (hval 0 22 v0 rfl rfl); rw [hq]; rfl
  rw [u0] at z0
  clear u0
  obtain ⟨x0, ax0, cx0, ex0, fx0⟩ := sli_of_sees (bytes := 1) Try.underlying22 Try.underlying5 (by kernel_rfl) (by kernel_rfl) z0
  injection ex0 with ex0; subst ex0
  have k1 := h1
  have lt1 : ∀ x ∈ p1, x.block < W.heap.size := by obtain ⟨m, hm⟩ := k1; exact DataW.trod_lt m _ _ _ hm
  have z1 := sees_arg (P := Try.prog) (w := W) hsz 1 (t := 25) rfl rfl h1 7
  obtain ⟨cs1, rfl, hs1⟩ := okWide_aggS Try.underlying25 (hval 1 25 v1 rfl rfl)
  obtain ⟨y1_0, y1_1, y1_2, y1_3, rfl⟩ := array_of_size4 (hs1.trans (by kernel_rfl))
  replace z1 : Sees Try.prog W 7 25 [y1_0, y1_1, y1_2, y1_3] := z1
  have gz1 := sees_struct Try.underlying25 z1
  have sz1_0 := gz1 0 _ rfl
  replace sz1_0 : Sees Try.prog W _ 23 [y1_0] := sz1_0
  obtain ⟨p1_0, ep1_0, fp1_0⟩ := sees_int Try.underlying23 sz1_0
  injection ep1_0 with ep1_0; subst ep1_0
  have sz1_1 := gz1 1 _ rfl
  replace sz1_1 : Sees Try.prog W _ 23 [y1_1] := sz1_1
  obtain ⟨p1_1, ep1_1, fp1_1⟩ := sees_int Try.underlying23 sz1_1
  injection ep1_1 with ep1_1; subst ep1_1
  have sz1_2 := gz1 2 _ rfl
  replace sz1_2 : Sees Try.prog W _ 3 [y1_2] := sz1_2
  obtain ⟨p1_2, ep1_2, fp1_2⟩ := sees_int Try.underlying3 sz1_2
  injection ep1_2 with ep1_2; subst ep1_2
  have sz1_3 := gz1 3 _ rfl
  replace sz1_3 : Sees Try.prog W _ 4 [y1_3] := sz1_3
  obtain ⟨p1_3, ep1_3⟩ := sees_bool Try.underlying4 sz1_3
  injection ep1_3 with ep1_3; subst ep1_3
  clear hA0 hval0 hsz0 hsz hval
  refine (octetsWindows_walk W x0 ax0 cx0 fx0 p1_0 (bounds_u64 fp1_0) p1_1 (bounds_u64 fp1_1) p1_2 (bounds_i64 fp1_2) p1_3).mono fun e W' ⟨he, bel⟩ => ?_
  subst he
  exact ⟨_, rfl, _, _, _, [], _, [], hW', trodAll_mk1 (shut_bool Try.underlying4 _), (trodAll_cons_mk (Below.trod laidOut (by kernel_rfl) (of_decide_eq_true (by kernel_rfl)) k0 bel lt0) (trodAll_cons_mk (Below.trod laidOut (by kernel_rfl) (of_decide_eq_true (by kernel_rfl)) k1 bel lt1) trodAll_mk0)), rfl, bel.frame _, fun h => by cases h⟩

theorem over : Rows.octetsWindowsRow.holds Try.pinned (OpenSpec.ofChange Rows.octetsWindowsSpec) :=
  OpenClaim.holds_of_wide 3 Try.f3 rfl rfl rfl rfl rfl rfl rfl ⟨rfl, rfl, rfl, rfl, rfl⟩ rfl rfl rfl rfl rfl (by kernel_rfl) Try.func3 (by kernel_rfl)
    (of_decide_eq_true (by kernel_rfl)) (by unfold Func.isWrapper; first | (rw [if_pos (by decide +kernel)]; kernel_rfl) | (rw [if_neg (by decide +kernel)]; exact ⟨rfl, rfl⟩))
    (fun os started H enc _ => lifted os started H enc)

theorem proved : Rows.OctetsWindowsSaid := over
#print axioms proved
end Go.Proofs.Ytochcepfljafoaa.octetsWindows

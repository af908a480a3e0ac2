/- The statement 'GridMaps': the given row is proved from the law's walk. It is proved for every input that the row speaks of. No further condition. -/
import Derived.Test.YtbckibmjjkgmnaaLMaps
import Derived.Test.YtbckibmjjkgmnaaRows
import Derived.Test.YtbckibmjjkgmnaaChecked
import Derived.Test.YtbckibmjjkgmnaaEngT
import Derived.ProofKit
import Derived.OpenShut
import Derived.ShutString
import Derived.ChangeOld
namespace Go.Proofs.Ytbckibmjjkgmnaa.gridMaps
open Go.ChangeShapes Go.WideShapes Go.ChangeAt Go.RowKit Go.Shp Go.Eng
open Go.ChangeMaps (open_string shut_string)
set_option linter.unusedVariables false

theorem own : ownKnob Try.prog.godebug = none := by kernel_rfl
theorem laidOut : laidOutB Try.prog = true := by kernel_rfl

theorem list_of_size4 {ds : List D} (h : ds.length = 4) : ∃ c0 c1 c2 c3, ds = [c0, c1, c2, c3] := by
  match ds, h with
  | [c0, c1, c2, c3], _ => exact ⟨c0, c1, c2, c3, rfl⟩

theorem shp3 {D' : Nat} {ds : List D} (h : Dk Try.prog (D' + 1) 3 ds) : ∃ y : Int, ds = [.c (.int .i64 y)] ∧ (-9223372036854775808 ≤ y ∧ y ≤ 9223372036854775807) := by
  obtain ⟨x, rfl, hx⟩ := dk_int Try.underlying3 h
  exact ⟨x, rfl, bounds_i64 hx⟩

theorem shp67 {D' : Nat} {ds : List D} (h : Dk Try.prog (D' + 2) 67 ds) : ∃ y : (Int) × (Int) × (Int) × (Int), ds = [.c (.int .i64 y.1), .c (.int .i64 y.2.1), .c (.int .i64 y.2.2.1), .c (.int .i64 y.2.2.2)] ∧ ((-9223372036854775808 ≤ y.1 ∧ y.1 ≤ 9223372036854775807) ∧ (-9223372036854775808 ≤ y.2.1 ∧ y.2.1 ≤ 9223372036854775807) ∧ (-9223372036854775808 ≤ y.2.2.1 ∧ y.2.2.1 ≤ 9223372036854775807) ∧ (-9223372036854775808 ≤ y.2.2.2 ∧ y.2.2.2 ≤ 9223372036854775807)) := by
  have hl := dk_lenA Try.underlying67 h
  rw [show Try.prog.cellsOf 67 = 4 from by kernel_rfl] at hl
  obtain ⟨d0, d1, d2, d3, rfl⟩ := list_of_size4 hl
  have q0 : Dk Try.prog _ 3 [d0] := dk_array Try.underlying67 h 0 (by omega)
  obtain ⟨y0, e0, p0⟩ := shp3 q0
  simp only [List.cons.injEq, and_true] at e0
  obtain rfl := e0
  have q1 : Dk Try.prog _ 3 [d1] := dk_array Try.underlying67 h 1 (by omega)
  obtain ⟨y1, e1, p1⟩ := shp3 q1
  simp only [List.cons.injEq, and_true] at e1
  obtain rfl := e1
  have q2 : Dk Try.prog _ 3 [d2] := dk_array Try.underlying67 h 2 (by omega)
  obtain ⟨y2, e2, p2⟩ := shp3 q2
  simp only [List.cons.injEq, and_true] at e2
  obtain rfl := e2
  have q3 : Dk Try.prog _ 3 [d3] := dk_array Try.underlying67 h 3 (by omega)
  obtain ⟨y3, e3, p3⟩ := shp3 q3
  simp only [List.cons.injEq, and_true] at e3
  obtain rfl := e3
  exact ⟨⟨y0, y1, y2, y3⟩, rfl, p0, p1, p2, p3⟩

set_option maxRecDepth 100000 in
theorem lifted (os : Os) (started : os.Started) (H : Type) (enc : TypeId × Value → H) :
    ReturnsInHanded {} Try.checked os 8 .any (Rows.gridMapsSpec.pre6 enc Try.prog Try.f8 Rows.gridMapsRow.domain false) (Rows.gridMapsSpec.post enc Try.prog Try.f8 false true false false) := by
  refine returnsInHanded_of_change_sized (C := Try.checked) own started (by kernel_rfl) Try.func8
    (ChangeSpec.witness6 (enc := enc) (C := Try.checked) false ⟨#[], #[.agg #[.int .i64 0, .int .i64 0, .int .i64 0, .int .i64 0]], []⟩ 8 (by kernel_rfl) (by kernel_rfl) (by kernel_rfl) (by kernel_rfl)) ?_
  intro W base args ds gs before hval0 hW hcnd hsz0 _
  have hval : ∀ (j : Nat) t v, Try.f8.params[j]? = some t → args[j]? = some v → Value.okWide Try.prog W .any base t v := hval0
  have hsz : (DataW.weightsEach Try.prog (Try.f8.params.toList ++ Rows.gridMapsSpec.plain.varTypes Try.prog) (ds ++ gs)).all (· ≤ reachBytes) = true := hsz0
  have hW' := hW
  obtain ⟨p, q, hA0, hV, rfl, hfz, hnd⟩ := hW
  have hA : DataW.TrodAll enc Try.prog W 0 (fun _ => true) true Try.f8.params.toList args.toList ds p := hA0
  rw [Try.params8] at hA hval hsz
  obtain ⟨v0, vs0, d0, ds0, p0, q0, hargs, rfl, rfl, h0, r0⟩ := trodAll_cons hA
  obtain ⟨rfl, rfl, rfl⟩ := trodAll_nil r0
  obtain rfl : args = #[v0] := by cases args; simp_all
  obtain ⟨rfl, rfl⟩ := trodVars_none hV
  have k0 := h0
  have lt0 : ∀ x ∈ p0, x.block < W.heap.size := by obtain ⟨m, hm⟩ := k0; exact DataW.trod_lt m _ _ _ hm
  have z0 := sees_arg (P := Try.prog) (w := W) hsz 0 (t := 67) rfl rfl h0 8
  obtain ⟨s0, hd0, hk0⟩ := data_of_sees 8 67 _ (by kernel_rfl) z0
  obtain ⟨cs0, rfl, _⟩ := okWide_aggA Try.underlying67 (hval 0 67 v0 rfl rfl)
  obtain ⟨y0, rfl, hp0⟩ := shp67 (D' := 6) hk0
  have dr0 : DR (fun b => b < W.heap.size) W _ _ := DR.ofN hd0
  clear hA0 hval0 hsz0 hsz hval
  refine (Giv.calls (by kernel_rfl) (gridMaps_giv y0 hp0) (w := W) (DRt.cons' dr0 DRt.nil')).mono fun e W' ⟨he, bel⟩ => ?_
  subst he
  exact ⟨_, rfl, _, _, _, [], _, [], hW', trodAll_mk1 (shut_bool Try.underlying4 _), (trodAll_cons_mk (Below.trod laidOut (by kernel_rfl) (of_decide_eq_true (by kernel_rfl)) k0 bel lt0) trodAll_mk0), rfl, bel.frame _, fun h => by cases h⟩

theorem over : Rows.gridMapsRow.holds Try.pinned (OpenSpec.ofChange Rows.gridMapsSpec) :=
  OpenClaim.holds_of_wide 8 Try.f8 rfl rfl rfl rfl rfl rfl rfl ⟨rfl, rfl, rfl, rfl, rfl⟩ rfl rfl rfl rfl rfl (by kernel_rfl) Try.func8 (by kernel_rfl)
    (of_decide_eq_true (by kernel_rfl)) (by unfold Func.isWrapper; first | (rw [if_pos (by decide +kernel)]; kernel_rfl) | (rw [if_neg (by decide +kernel)]; exact ⟨rfl, rfl⟩))
    (fun os started H enc _ => lifted os started H enc)

theorem proved : Rows.GridMapsSaid := over
#print axioms proved
end Go.Proofs.Ytbckibmjjkgmnaa.gridMaps

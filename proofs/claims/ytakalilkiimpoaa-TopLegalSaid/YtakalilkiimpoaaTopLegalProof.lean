/- The statement 'TopLegal': the given row is proved from the law's walk. It is proved for every input that the row speaks of. No further condition. -/
import Derived.Test.YtakalilkiimpoaaLTop
import Derived.Test.YtakalilkiimpoaaRows
import Derived.Test.YtakalilkiimpoaaChecked
import Derived.Test.YtakalilkiimpoaaEngT
import Derived.ProofKit
import Derived.OpenShut
import Derived.ShutString
import Derived.ChangeOld
namespace Go.Proofs.Ytakalilkiimpoaa.topLegal
open Go.ChangeShapes Go.WideShapes Go.ChangeAt Go.RowKit Go.Shp Go.Eng
open Go.ChangeMaps (open_string shut_string)
set_option linter.unusedVariables false
set_option maxRecDepth 100000

theorem own : ownKnob Try.prog.godebug = none := by kernel_rfl
theorem laidOut : laidOutB Try.prog = true := by kernel_rfl

theorem list_of_size4 {ds : List D} (h : ds.length = 4) : ∃ c0 c1 c2 c3, ds = [c0, c1, c2, c3] := by
  match ds, h with
  | [c0, c1, c2, c3], _ => exact ⟨c0, c1, c2, c3, rfl⟩

theorem list_of_size5 {ds : List D} (h : ds.length = 5) : ∃ c0 c1 c2 c3 c4, ds = [c0, c1, c2, c3, c4] := by
  match ds, h with
  | [c0, c1, c2, c3, c4], _ => exact ⟨c0, c1, c2, c3, c4, rfl⟩

theorem list_of_size14 {ds : List D} (h : ds.length = 14) : ∃ c0 c1 c2 c3 c4 c5 c6 c7 c8 c9 c10 c11 c12 c13, ds = [c0, c1, c2, c3, c4, c5, c6, c7, c8, c9, c10, c11, c12, c13] := by
  match ds, h with
  | [c0, c1, c2, c3, c4, c5, c6, c7, c8, c9, c10, c11, c12, c13], _ => exact ⟨c0, c1, c2, c3, c4, c5, c6, c7, c8, c9, c10, c11, c12, c13, rfl⟩

theorem shp3 {D' : Nat} {ds : List D} (h : Dk Try.prog (D' + 1) 3 ds) : ∃ y : Int, ds = [.c (.int .i64 y)] ∧ (-9223372036854775808 ≤ y ∧ y ≤ 9223372036854775807) := by
  obtain ⟨x, rfl, hx⟩ := dk_int Try.underlying3 h
  exact ⟨x, rfl, bounds_i64 hx⟩

theorem shp22 {D' : Nat} {ds : List D} (h : Dk Try.prog (D' + 2) 22 ds) : ∃ y : List Int, ds = [.lst 1 (li .u32 y)] ∧ (y.length * 4 ≤ 140737488351232 ∧ ∀ z ∈ y, 0 ≤ z ∧ z ≤ 4294967295) := by
  obtain ⟨x, rfl, hx, hy⟩ := dk_ints (by_ := 4) Try.underlying22 Try.underlying36 (by kernel_rfl) (by kernel_rfl) h
  exact ⟨x, rfl, hx, fun z hz => bounds_u32 (hy z hz)⟩

theorem shp24 {D' : Nat} {ds : List D} (h : Dk Try.prog (D' + 3) 24 ds) : ∃ y : (Int) × (Int) × (Int) × (Int) × (List Int), ds = [.c (.int .i64 y.1), .c (.int .i64 y.2.1), .c (.int .i64 y.2.2.1), .c (.int .i64 y.2.2.2.1), .lst 1 (li .u32 y.2.2.2.2)] ∧ ((-9223372036854775808 ≤ y.1 ∧ y.1 ≤ 9223372036854775807) ∧ (-9223372036854775808 ≤ y.2.1 ∧ y.2.1 ≤ 9223372036854775807) ∧ (-9223372036854775808 ≤ y.2.2.1 ∧ y.2.2.1 ≤ 9223372036854775807) ∧ (-9223372036854775808 ≤ y.2.2.2.1 ∧ y.2.2.2.1 ≤ 9223372036854775807) ∧ (y.2.2.2.2.length * 4 ≤ 140737488351232 ∧ ∀ z ∈ y.2.2.2.2, 0 ≤ z ∧ z ≤ 4294967295)) := by
  have hl := dk_lenS Try.underlying24 h
  rw [show Try.prog.cellsOf 24 = 5 from by kernel_rfl] at hl
  obtain ⟨d0, d1, d2, d3, d4, rfl⟩ := list_of_size5 hl
  have q0 : Dk Try.prog _ 3 [d0] := dk_struct Try.underlying24 h 0 _ rfl
  obtain ⟨y0, e0, p0⟩ := shp3 q0
  simp only [List.cons.injEq, and_true] at e0
  obtain rfl := e0
  have q1 : Dk Try.prog _ 3 [d1] := dk_struct Try.underlying24 h 1 _ rfl
  obtain ⟨y1, e1, p1⟩ := shp3 q1
  simp only [List.cons.injEq, and_true] at e1
  obtain rfl := e1
  have q2 : Dk Try.prog _ 3 [d2] := dk_struct Try.underlying24 h 2 _ rfl
  obtain ⟨y2, e2, p2⟩ := shp3 q2
  simp only [List.cons.injEq, and_true] at e2
  obtain rfl := e2
  have q3 : Dk Try.prog _ 3 [d3] := dk_struct Try.underlying24 h 3 _ rfl
  obtain ⟨y3, e3, p3⟩ := shp3 q3
  simp only [List.cons.injEq, and_true] at e3
  obtain rfl := e3
  have q4 : Dk Try.prog _ 22 [d4] := dk_struct Try.underlying24 h 4 _ rfl
  obtain ⟨y4, e4, p4⟩ := shp22 q4
  simp only [List.cons.injEq, and_true] at e4
  obtain rfl := e4
  exact ⟨⟨y0, y1, y2, y3, y4⟩, rfl, p0, p1, p2, p3, p4⟩

theorem shp4 {D' : Nat} {ds : List D} (h : Dk Try.prog (D' + 1) 4 ds) : ∃ y : Bool, ds = [.c (.bool y)] ∧ True := by
  obtain ⟨x, rfl⟩ := dk_bool Try.underlying4 h
  exact ⟨x, rfl, trivial⟩

theorem shp26 {D' : Nat} {ds : List D} (h : Dk Try.prog (D' + 2) 26 ds) : ∃ y : (Bool) × (Int) × (Bool) × (Bool), ds = [.c (.bool y.1), .c (.int .i64 y.2.1), .c (.bool y.2.2.1), .c (.bool y.2.2.2)] ∧ (True ∧ (-9223372036854775808 ≤ y.2.1 ∧ y.2.1 ≤ 9223372036854775807) ∧ True ∧ True) := by
  have hl := dk_lenS Try.underlying26 h
  rw [show Try.prog.cellsOf 26 = 4 from by kernel_rfl] at hl
  obtain ⟨d0, d1, d2, d3, rfl⟩ := list_of_size4 hl
  have q0 : Dk Try.prog _ 4 [d0] := dk_struct Try.underlying26 h 0 _ rfl
  obtain ⟨y0, e0, p0⟩ := shp4 q0
  simp only [List.cons.injEq, and_true] at e0
  obtain rfl := e0
  have q1 : Dk Try.prog _ 3 [d1] := dk_struct Try.underlying26 h 1 _ rfl
  obtain ⟨y1, e1, p1⟩ := shp3 q1
  simp only [List.cons.injEq, and_true] at e1
  obtain rfl := e1
  have q2 : Dk Try.prog _ 4 [d2] := dk_struct Try.underlying26 h 2 _ rfl
  obtain ⟨y2, e2, p2⟩ := shp4 q2
  simp only [List.cons.injEq, and_true] at e2
  obtain rfl := e2
  have q3 : Dk Try.prog _ 4 [d3] := dk_struct Try.underlying26 h 3 _ rfl
  obtain ⟨y3, e3, p3⟩ := shp4 q3
  simp only [List.cons.injEq, and_true] at e3
  obtain rfl := e3
  exact ⟨⟨y0, y1, y2, y3⟩, rfl, p0, p1, p2, p3⟩

theorem shp28 {D' : Nat} {ds : List D} (h : Dk Try.prog (D' + 3) 28 ds) : ∃ y : (Bool) × (Bool) × (Bool) × (Int) × (Int) × (Bool) × (Int) × (Bool) × (Bool) × ((Bool) × (Int) × (Bool) × (Bool)) × (Int), ds = [.c (.bool y.1), .c (.bool y.2.1), .c (.bool y.2.2.1), .c (.int .i64 y.2.2.2.1), .c (.int .i64 y.2.2.2.2.1), .c (.bool y.2.2.2.2.2.1), .c (.int .i64 y.2.2.2.2.2.2.1), .c (.bool y.2.2.2.2.2.2.2.1), .c (.bool y.2.2.2.2.2.2.2.2.1), .c (.bool y.2.2.2.2.2.2.2.2.2.1.1), .c (.int .i64 y.2.2.2.2.2.2.2.2.2.1.2.1), .c (.bool y.2.2.2.2.2.2.2.2.2.1.2.2.1), .c (.bool y.2.2.2.2.2.2.2.2.2.1.2.2.2), .c (.int .i64 y.2.2.2.2.2.2.2.2.2.2)] ∧ (True ∧ True ∧ True ∧ (-9223372036854775808 ≤ y.2.2.2.1 ∧ y.2.2.2.1 ≤ 9223372036854775807) ∧ (-9223372036854775808 ≤ y.2.2.2.2.1 ∧ y.2.2.2.2.1 ≤ 9223372036854775807) ∧ True ∧ (-9223372036854775808 ≤ y.2.2.2.2.2.2.1 ∧ y.2.2.2.2.2.2.1 ≤ 9223372036854775807) ∧ True ∧ True ∧ (True ∧ (-9223372036854775808 ≤ y.2.2.2.2.2.2.2.2.2.1.2.1 ∧ y.2.2.2.2.2.2.2.2.2.1.2.1 ≤ 9223372036854775807) ∧ True ∧ True) ∧ (-9223372036854775808 ≤ y.2.2.2.2.2.2.2.2.2.2 ∧ y.2.2.2.2.2.2.2.2.2.2 ≤ 9223372036854775807)) := by
  have hl := dk_lenS Try.underlying28 h
  rw [show Try.prog.cellsOf 28 = 14 from by kernel_rfl] at hl
  obtain ⟨d0, d1, d2, d3, d4, d5, d6, d7, d8, d9, d10, d11, d12, d13, rfl⟩ := list_of_size14 hl
  have q0 : Dk Try.prog _ 4 [d0] := dk_struct Try.underlying28 h 0 _ rfl
  obtain ⟨y0, e0, p0⟩ := shp4 q0
  simp only [List.cons.injEq, and_true] at e0
  obtain rfl := e0
  have q1 : Dk Try.prog _ 4 [d1] := dk_struct Try.underlying28 h 1 _ rfl
  obtain ⟨y1, e1, p1⟩ := shp4 q1
  simp only [List.cons.injEq, and_true] at e1
  obtain rfl := e1
  have q2 : Dk Try.prog _ 4 [d2] := dk_struct Try.underlying28 h 2 _ rfl
  obtain ⟨y2, e2, p2⟩ := shp4 q2
  simp only [List.cons.injEq, and_true] at e2
  obtain rfl := e2
  have q3 : Dk Try.prog _ 3 [d3] := dk_struct Try.underlying28 h 3 _ rfl
  obtain ⟨y3, e3, p3⟩ := shp3 q3
  simp only [List.cons.injEq, and_true] at e3
  obtain rfl := e3
  have q4 : Dk Try.prog _ 3 [d4] := dk_struct Try.underlying28 h 4 _ rfl
  obtain ⟨y4, e4, p4⟩ := shp3 q4
  simp only [List.cons.injEq, and_true] at e4
  obtain rfl := e4
  have q5 : Dk Try.prog _ 4 [d5] := dk_struct Try.underlying28 h 5 _ rfl
  obtain ⟨y5, e5, p5⟩ := shp4 q5
  simp only [List.cons.injEq, and_true] at e5
  obtain rfl := e5
  have q6 : Dk Try.prog _ 3 [d6] := dk_struct Try.underlying28 h 6 _ rfl
  obtain ⟨y6, e6, p6⟩ := shp3 q6
  simp only [List.cons.injEq, and_true] at e6
  obtain rfl := e6
  have q7 : Dk Try.prog _ 4 [d7] := dk_struct Try.underlying28 h 7 _ rfl
  obtain ⟨y7, e7, p7⟩ := shp4 q7
  simp only [List.cons.injEq, and_true] at e7
  obtain rfl := e7
  have q8 : Dk Try.prog _ 4 [d8] := dk_struct Try.underlying28 h 8 _ rfl
  obtain ⟨y8, e8, p8⟩ := shp4 q8
  simp only [List.cons.injEq, and_true] at e8
  obtain rfl := e8
  have q9 : Dk Try.prog _ 26 [d9, d10, d11, d12] := dk_struct Try.underlying28 h 9 _ rfl
  obtain ⟨y9, e9, p9⟩ := shp26 q9
  simp only [List.cons.injEq, and_true] at e9
  obtain ⟨rfl, rfl, rfl, rfl⟩ := e9
  have q10 : Dk Try.prog _ 3 [d13] := dk_struct Try.underlying28 h 10 _ rfl
  obtain ⟨y10, e10, p10⟩ := shp3 q10
  simp only [List.cons.injEq, and_true] at e10
  obtain rfl := e10
  exact ⟨⟨y0, y1, y2, y3, y4, y5, y6, y7, y8, y9, y10⟩, rfl, p0, p1, p2, p3, p4, p5, p6, p7, p8, p9, p10⟩

set_option maxRecDepth 100000 in
theorem lifted (os : Os) (started : os.Started) (H : Type) (enc : TypeId × Value → H) :
    ReturnsInHanded {} Try.checked os 3 .any (Rows.topLegalSpec.pre6 enc Try.prog Try.f3 Rows.topLegalRow.domain false) (Rows.topLegalSpec.post enc Try.prog Try.f3 false true false false) := by
  refine returnsInHanded_of_change_sized (C := Try.checked) own started (by kernel_rfl) Try.func3
    (ChangeSpec.witness6 (enc := enc) (C := Try.checked) false ⟨#[], #[.agg #[.int .i64 0, .int .i64 0, .int .i64 0, .int .i64 0, .slice none 0 0], .agg #[.bool false, .bool false, .bool false, .int .i64 0, .int .i64 0, .bool false, .int .i64 0, .bool false, .bool false, .bool false, .int .i64 0, .bool false, .bool false, .int .i64 0]], []⟩ 8 (by kernel_rfl) (by kernel_rfl) (by kernel_rfl) (by kernel_rfl)) ?_
  intro W base args ds gs before hval0 hW hcnd hsz0 _
  have hval : ∀ (j : Nat) t v, Try.f3.params[j]? = some t → args[j]? = some v → Value.okWide Try.prog W .any base t v := hval0
  have hsz : (DataW.weightsEach Try.prog (Try.f3.params.toList ++ Rows.topLegalSpec.plain.varTypes Try.prog) (ds ++ gs)).all (· ≤ reachBytes) = true := hsz0
  have hW' := hW
  obtain ⟨p, q, hA0, hV, rfl, hfz, hnd⟩ := hW
  have hA : DataW.TrodAll enc Try.prog W 0 (fun _ => true) true Try.f3.params.toList args.toList ds p := hA0
  rw [Try.params3] at hA hval hsz
  obtain ⟨v0, vs0, d0, ds0, p0, q0, hargs, rfl, rfl, h0, r0⟩ := trodAll_cons hA
  obtain ⟨v1, vs1, d1, ds1, p1, q1, rfl, rfl, rfl, h1, r1⟩ := trodAll_cons r0
  obtain ⟨rfl, rfl, rfl⟩ := trodAll_nil r1
  obtain rfl : args = #[v0, v1] := by cases args; simp_all
  obtain ⟨rfl, rfl⟩ := trodVars_none hV
  have k0 := h0
  have lt0 : ∀ x ∈ p0, x.block < W.heap.size := by obtain ⟨m, hm⟩ := k0; exact DataW.trod_lt m _ _ _ hm
  have z0 := sees_arg (P := Try.prog) (w := W) hsz 0 (t := 24) rfl rfl h0 8
  obtain ⟨s0, hd0, hk0⟩ := data_of_sees 8 24 _ (by kernel_rfl) z0
  obtain ⟨cs0, rfl, _⟩ := okWide_aggS Try.underlying24 (hval 0 24 v0 rfl rfl)
  obtain ⟨y0, rfl, hp0⟩ := shp24 (D' := 5) hk0
  have dr0 : DR (fun b => b < W.heap.size) W _ _ := DR.ofN hd0
  have k1 := h1
  have lt1 : ∀ x ∈ p1, x.block < W.heap.size := by obtain ⟨m, hm⟩ := k1; exact DataW.trod_lt m _ _ _ hm
  have z1 := sees_arg (P := Try.prog) (w := W) hsz 1 (t := 28) rfl rfl h1 8
  obtain ⟨s1, hd1, hk1⟩ := data_of_sees 8 28 _ (by kernel_rfl) z1
  obtain ⟨cs1, rfl, _⟩ := okWide_aggS Try.underlying28 (hval 1 28 v1 rfl rfl)
  obtain ⟨y1, rfl, hp1⟩ := shp28 (D' := 5) hk1
  have dr1 : DR (fun b => b < W.heap.size) W _ _ := DR.ofN hd1
  clear hA0 hval0 hsz0 hsz hval
  refine (Giv.calls (by kernel_rfl) (topLegal_giv y0 hp0 y1 hp1) (w := W) (DRt.cons' dr0 (DRt.cons' dr1 DRt.nil'))).mono fun e W' ⟨he, bel⟩ => ?_
  subst he
  exact ⟨_, rfl, _, _, _, [], _, [], hW', trodAll_mk1 (shut_bool Try.underlying4 _), (trodAll_cons_mk (Below.trod laidOut (by kernel_rfl) (of_decide_eq_true (by kernel_rfl)) k0 bel lt0) (trodAll_cons_mk (Below.trod laidOut (by kernel_rfl) (of_decide_eq_true (by kernel_rfl)) k1 bel lt1) trodAll_mk0)), rfl, bel.frame _, fun h => by cases h⟩

theorem over : Rows.topLegalRow.holds Try.pinned (OpenSpec.ofChange Rows.topLegalSpec) :=
  OpenClaim.holds_of_wide 3 Try.f3 rfl rfl rfl rfl rfl rfl rfl ⟨rfl, rfl, rfl, rfl, rfl⟩ rfl rfl rfl rfl rfl (by kernel_rfl) Try.func3 (by kernel_rfl)
    (of_decide_eq_true (by kernel_rfl)) (by unfold Func.isWrapper; first | (rw [if_pos (by decide +kernel)]; kernel_rfl) | (rw [if_neg (by decide +kernel)]; exact ⟨rfl, rfl⟩))
    (fun os started H enc _ => lifted os started H enc)

theorem proved : Rows.TopLegalSaid := over
#print axioms proved
end Go.Proofs.Ytakalilkiimpoaa.topLegal

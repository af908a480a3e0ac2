/- The statement 'IfdAgain': the given row is proved from the law's walk. It is proved for every input that the row speaks of. No further condition. -/
import Derived.Test.YtkdkhngdilhneaaLAgain
import Derived.Test.YtkdkhngdilhneaaRows
import Derived.Test.YtkdkhngdilhneaaChecked
import Derived.Test.YtkdkhngdilhneaaEngT
import Derived.ProofKit
import Derived.OpenShut
import Derived.ShutString
import Derived.ChangeOld
namespace Go.Proofs.Ytkdkhngdilhneaa.ifdAgain
open Go.ChangeShapes Go.WideShapes Go.ChangeAt Go.RowKit Go.Shp Go.Eng
open Go.ChangeMaps (open_string shut_string)
set_option linter.unusedVariables false
set_option maxRecDepth 100000

theorem own : ownKnob Try.prog.godebug = none := by kernel_rfl
theorem laidOut : laidOutB Try.prog = true := by kernel_rfl

theorem list_of_size3 {ds : List D} (h : ds.length = 3) : ∃ c0 c1 c2, ds = [c0, c1, c2] := by
  match ds, h with
  | [c0, c1, c2], _ => exact ⟨c0, c1, c2, rfl⟩

theorem shp76 {D' : Nat} {ds : List D} (h : Dk Try.prog (D' + 1) 76 ds) : ∃ y : Int, ds = [.c (.int .u16 y)] ∧ (0 ≤ y ∧ y ≤ 65535) := by
  obtain ⟨x, rfl, hx⟩ := dk_int Try.underlying76 h
  exact ⟨x, rfl, bounds_u16 hx⟩

theorem shp3 {D' : Nat} {ds : List D} (h : Dk Try.prog (D' + 1) 3 ds) : ∃ y : Int, ds = [.c (.int .i64 y)] ∧ (-9223372036854775808 ≤ y ∧ y ≤ 9223372036854775807) := by
  obtain ⟨x, rfl, hx⟩ := dk_int Try.underlying3 h
  exact ⟨x, rfl, bounds_i64 hx⟩

theorem shp63 {D' : Nat} {ds : List D} (h : Dk Try.prog (D' + 2) 63 ds) : ∃ y : List Int, ds = [.lst 1 (li .u64 y)] ∧ (y.length * 8 ≤ 140737488351232 ∧ ∀ z ∈ y, 0 ≤ z ∧ z ≤ 18446744073709551615) := by
  obtain ⟨x, rfl, hx, hy⟩ := dk_ints (by_ := 8) Try.underlying63 Try.underlying23 (by kernel_rfl) (by kernel_rfl) h
  exact ⟨x, rfl, hx, fun z hz => bounds_u64 (hy z hz)⟩

theorem shp78 {D' : Nat} {ds : List D} (h : Dk Try.prog (D' + 3) 78 ds) : ∃ y : (Int) × (Int) × (List Int), ds = [.c (.int .u16 y.1), .c (.int .i64 y.2.1), .lst 1 (li .u64 y.2.2)] ∧ ((0 ≤ y.1 ∧ y.1 ≤ 65535) ∧ (-9223372036854775808 ≤ y.2.1 ∧ y.2.1 ≤ 9223372036854775807) ∧ (y.2.2.length * 8 ≤ 140737488351232 ∧ ∀ z ∈ y.2.2, 0 ≤ z ∧ z ≤ 18446744073709551615)) := by
  have hl := dk_lenS Try.underlying78 h
  rw [show Try.prog.cellsOf 78 = 3 from by kernel_rfl] at hl
  obtain ⟨d0, d1, d2, rfl⟩ := list_of_size3 hl
  have q0 : Dk Try.prog _ 76 [d0] := dk_struct Try.underlying78 h 0 _ rfl
  obtain ⟨y0, e0, p0⟩ := shp76 q0
  simp only [List.cons.injEq, and_true] at e0
  obtain rfl := e0
  have q1 : Dk Try.prog _ 3 [d1] := dk_struct Try.underlying78 h 1 _ rfl
  obtain ⟨y1, e1, p1⟩ := shp3 q1
  simp only [List.cons.injEq, and_true] at e1
  obtain rfl := e1
  have q2 : Dk Try.prog _ 63 [d2] := dk_struct Try.underlying78 h 2 _ rfl
  obtain ⟨y2, e2, p2⟩ := shp63 q2
  simp only [List.cons.injEq, and_true] at e2
  obtain rfl := e2
  exact ⟨⟨y0, y1, y2⟩, rfl, p0, p1, p2⟩

theorem shp38 {D' : Nat} {ds : List D} (h : Dk Try.prog (D' + 4) 38 ds) : ∃ y : List ((Int) × (Int) × (List Int)), ds = [.lst 3 (y.map fun y => .agg [.c (.int .u16 y.1), .c (.int .i64 y.2.1), .lst 1 (li .u64 y.2.2)])] ∧ (y.length * 40 ≤ 140737488351232 ∧ ∀ e ∈ y, ((0 ≤ e.1 ∧ e.1 ≤ 65535) ∧ (-9223372036854775808 ≤ e.2.1 ∧ e.2.1 ≤ 9223372036854775807) ∧ (e.2.2.length * 8 ≤ 140737488351232 ∧ ∀ z ∈ e.2.2, 0 ≤ z ∧ z ≤ 18446744073709551615))) := by
  obtain ⟨L, rfl, hx, _, hy⟩ := dk_slice Try.underlying38 h
  rw [show Try.prog.bytesOf 78 = 40 from by kernel_rfl] at hx
  rw [show Try.prog.cellsOf 78 = 3 from by kernel_rfl]
  obtain ⟨ys, rfl, hp⟩ := list_map (f := fun y : (Int) × (Int) × (List Int) => (.agg [.c (.int .u16 y.1), .c (.int .i64 y.2.1), .lst 1 (li .u64 y.2.2)] : D)) (p := fun y => ((0 ≤ y.1 ∧ y.1 ≤ 65535) ∧ (-9223372036854775808 ≤ y.2.1 ∧ y.2.1 ≤ 9223372036854775807) ∧ (y.2.2.length * 8 ≤ 140737488351232 ∧ ∀ z ∈ y.2.2, 0 ≤ z ∧ z ≤ 18446744073709551615))) (L := L) fun x hx => by
    obtain ⟨ds, rfl, hd⟩ := hy x hx
    obtain ⟨y, rfl, hq⟩ := shp78 hd
    exact ⟨y, by rw [wrapD, show agT Try.prog 78 = true from by kernel_rfl]; rfl, hq⟩
  exact ⟨ys, rfl, by simpa using hx, hp⟩

theorem shp62 {D' : Nat} {ds : List D} (h : Dk Try.prog (D' + 5) 62 ds) : ∃ y : List (List ((Int) × (Int) × (List Int))), ds = [.lst 1 (y.map fun y => .lst 3 (y.map fun y => .agg [.c (.int .u16 y.1), .c (.int .i64 y.2.1), .lst 1 (li .u64 y.2.2)]))] ∧ (y.length * 24 ≤ 140737488351232 ∧ ∀ e ∈ y, (e.length * 40 ≤ 140737488351232 ∧ ∀ e1 ∈ e, ((0 ≤ e1.1 ∧ e1.1 ≤ 65535) ∧ (-9223372036854775808 ≤ e1.2.1 ∧ e1.2.1 ≤ 9223372036854775807) ∧ (e1.2.2.length * 8 ≤ 140737488351232 ∧ ∀ z ∈ e1.2.2, 0 ≤ z ∧ z ≤ 18446744073709551615)))) := by
  obtain ⟨L, rfl, hx, _, hy⟩ := dk_slice Try.underlying62 h
  rw [show Try.prog.bytesOf 38 = 24 from by kernel_rfl] at hx
  rw [show Try.prog.cellsOf 38 = 1 from by kernel_rfl]
  obtain ⟨ys, rfl, hp⟩ := list_map (f := fun y : List ((Int) × (Int) × (List Int)) => (.lst 3 (y.map fun y => .agg [.c (.int .u16 y.1), .c (.int .i64 y.2.1), .lst 1 (li .u64 y.2.2)]) : D)) (p := fun y => (y.length * 40 ≤ 140737488351232 ∧ ∀ e ∈ y, ((0 ≤ e.1 ∧ e.1 ≤ 65535) ∧ (-9223372036854775808 ≤ e.2.1 ∧ e.2.1 ≤ 9223372036854775807) ∧ (e.2.2.length * 8 ≤ 140737488351232 ∧ ∀ z ∈ e.2.2, 0 ≤ z ∧ z ≤ 18446744073709551615)))) (L := L) fun x hx => by
    obtain ⟨ds, rfl, hd⟩ := hy x hx
    obtain ⟨y, rfl, hq⟩ := shp38 hd
    exact ⟨y, by rw [wrapD, show agT Try.prog 38 = false from by kernel_rfl]; rfl, hq⟩
  exact ⟨ys, rfl, by simpa using hx, hp⟩

theorem shp4 {D' : Nat} {ds : List D} (h : Dk Try.prog (D' + 1) 4 ds) : ∃ y : Bool, ds = [.c (.bool y)] ∧ True := by
  obtain ⟨x, rfl⟩ := dk_bool Try.underlying4 h
  exact ⟨x, rfl, trivial⟩

set_option maxRecDepth 100000 in
theorem lifted (os : Os) (started : os.Started) (H : Type) (enc : TypeId × Value → H) :
    ReturnsInHanded {} Try.checked os 6 .any (Rows.ifdAgainSpec.pre6 enc Try.prog Try.f6 Rows.ifdAgainRow.domain false) (Rows.ifdAgainSpec.post enc Try.prog Try.f6 false true false false) := by
  refine returnsInHanded_of_change_sized (C := Try.checked) own started (by kernel_rfl) Try.func6
    (ChangeSpec.witness6 (enc := enc) (C := Try.checked) false ⟨#[], #[.slice none 0 0, .bool false, .bool false], []⟩ 8 (by kernel_rfl) (by kernel_rfl) (by kernel_rfl) (by kernel_rfl)) ?_
  intro W base args ds gs before hval0 hW hcnd hsz0 _
  have hval : ∀ (j : Nat) t v, Try.f6.params[j]? = some t → args[j]? = some v → Value.okWide Try.prog W .any base t v := hval0
  have hsz : (DataW.weightsEach Try.prog (Try.f6.params.toList ++ Rows.ifdAgainSpec.plain.varTypes Try.prog) (ds ++ gs)).all (· ≤ reachBytes) = true := hsz0
  have hW' := hW
  obtain ⟨p, q, hA0, hV, rfl, hfz, hnd⟩ := hW
  have hA : DataW.TrodAll enc Try.prog W 0 (fun _ => true) true Try.f6.params.toList args.toList ds p := hA0
  rw [Try.params6] at hA hval hsz
  obtain ⟨v0, vs0, d0, ds0, p0, q0, hargs, rfl, rfl, h0, r0⟩ := trodAll_cons hA
  obtain ⟨v1, vs1, d1, ds1, p1, q1, rfl, rfl, rfl, h1, r1⟩ := trodAll_cons r0
  obtain ⟨v2, vs2, d2, ds2, p2, q2, rfl, rfl, rfl, h2, r2⟩ := trodAll_cons r1
  obtain ⟨rfl, rfl, rfl⟩ := trodAll_nil r2
  obtain rfl : args = #[v0, v1, v2] := by cases args; simp_all
  obtain ⟨rfl, rfl⟩ := trodVars_none hV
  have k0 := h0
  have lt0 : ∀ x ∈ p0, x.block < W.heap.size := by obtain ⟨m, hm⟩ := k0; exact DataW.trod_lt m _ _ _ hm
  have z0 := sees_arg (P := Try.prog) (w := W) hsz 0 (t := 62) rfl rfl h0 8
  obtain ⟨s0, hd0, hk0⟩ := data_of_sees 8 62 _ (by kernel_rfl) z0
  have u0 : v0.cells.toList = [v0] := by obtain ⟨q, ql, qc, hq⟩ := okWide_slice Try.underlying62 (hval 0 62 v0 rfl rfl); rw [hq]; rfl
  rw [u0] at hd0
  clear u0
  obtain ⟨y0, rfl, hp0⟩ := shp62 (D' := 3) hk0
  have dr0 : DR (fun b => b < W.heap.size) W _ _ := DR.of1 hd0
  have k1 := h1
  have lt1 : ∀ x ∈ p1, x.block < W.heap.size := by obtain ⟨m, hm⟩ := k1; exact DataW.trod_lt m _ _ _ hm
  have z1 := sees_arg (P := Try.prog) (w := W) hsz 1 (t := 4) rfl rfl h1 8
  obtain ⟨s1, hd1, hk1⟩ := data_of_sees 8 4 _ (by kernel_rfl) z1
  have u1 : v1.cells.toList = [v1] := by obtain ⟨q, hq⟩ := okWide_bool Try.underlying4 (hval 1 4 v1 rfl rfl); rw [hq]; rfl
  rw [u1] at hd1
  clear u1
  obtain ⟨y1, rfl, hp1⟩ := shp4 (D' := 7) hk1
  have dr1 : DR (fun b => b < W.heap.size) W _ _ := DR.of1 hd1
  have k2 := h2
  have lt2 : ∀ x ∈ p2, x.block < W.heap.size := by obtain ⟨m, hm⟩ := k2; exact DataW.trod_lt m _ _ _ hm
  have z2 := sees_arg (P := Try.prog) (w := W) hsz 2 (t := 4) rfl rfl h2 8
  obtain ⟨s2, hd2, hk2⟩ := data_of_sees 8 4 _ (by kernel_rfl) z2
  have u2 : v2.cells.toList = [v2] := by obtain ⟨q, hq⟩ := okWide_bool Try.underlying4 (hval 2 4 v2 rfl rfl); rw [hq]; rfl
  rw [u2] at hd2
  clear u2
  obtain ⟨y2, rfl, hp2⟩ := shp4 (D' := 7) hk2
  have dr2 : DR (fun b => b < W.heap.size) W _ _ := DR.of1 hd2
  clear hA0 hval0 hsz0 hsz hval
  refine (Giv.calls (by kernel_rfl) (ifdAgain_giv y0 hp0 y1 hp1 y2 hp2) (w := W) (DRt.cons' dr0 (DRt.cons' dr1 (DRt.cons' dr2 DRt.nil')))).mono fun e W' ⟨he, bel⟩ => ?_
  subst he
  exact ⟨_, rfl, _, _, _, [], _, [], hW', trodAll_mk1 (shut_bool Try.underlying4 _), (trodAll_cons_mk (Below.trod laidOut (by kernel_rfl) (of_decide_eq_true (by kernel_rfl)) k0 bel lt0) (trodAll_cons_mk (Below.trod laidOut (by kernel_rfl) (of_decide_eq_true (by kernel_rfl)) k1 bel lt1) (trodAll_cons_mk (Below.trod laidOut (by kernel_rfl) (of_decide_eq_true (by kernel_rfl)) k2 bel lt2) trodAll_mk0))), rfl, bel.frame _, fun h => by cases h⟩

theorem over : Rows.ifdAgainRow.holds Try.pinned (OpenSpec.ofChange Rows.ifdAgainSpec) :=
  OpenClaim.holds_of_wide 6 Try.f6 rfl rfl rfl rfl rfl rfl rfl ⟨rfl, rfl, rfl, rfl, rfl⟩ rfl rfl rfl rfl rfl (by kernel_rfl) Try.func6 (by kernel_rfl)
    (of_decide_eq_true (by kernel_rfl)) (by unfold Func.isWrapper; first | (rw [if_pos (by decide +kernel)]; kernel_rfl) | (rw [if_neg (by decide +kernel)]; exact ⟨rfl, rfl⟩))
    (fun os started H enc _ => lifted os started H enc)

theorem proved : Rows.IfdAgainSaid := over
#print axioms proved
end Go.Proofs.Ytkdkhngdilhneaa.ifdAgain

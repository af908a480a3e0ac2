/- The statement 'ColourPictures': the given row is proved from the law's walk. It is proved for every input that the row speaks of. No further condition. -/
import Derived.Test.YtdhcbaeglfdflaaLPictures
import Derived.Test.YtdhcbaeglfdflaaRows
import Derived.Test.YtdhcbaeglfdflaaChecked
import Derived.Test.YtdhcbaeglfdflaaEngT
import Derived.ProofKit
import Derived.OpenShut
import Derived.ShutString
import Derived.ChangeOld
namespace Go.Proofs.Ytdhcbaeglfdflaa.colourPictures
open Go.ChangeShapes Go.WideShapes Go.ChangeAt Go.RowKit Go.Shp Go.Eng
open Go.ChangeMaps (open_string shut_string)
set_option linter.unusedVariables false

theorem own : ownKnob Try.prog.godebug = none := by kernel_rfl
theorem laidOut : laidOutB Try.prog = true := by kernel_rfl

theorem list_of_size2 {ds : List D} (h : ds.length = 2) : ∃ c0 c1, ds = [c0, c1] := by
  match ds, h with
  | [c0, c1], _ => exact ⟨c0, c1, rfl⟩

theorem list_of_size3 {ds : List D} (h : ds.length = 3) : ∃ c0 c1 c2, ds = [c0, c1, c2] := by
  match ds, h with
  | [c0, c1, c2], _ => exact ⟨c0, c1, c2, rfl⟩

theorem list_of_size7 {ds : List D} (h : ds.length = 7) : ∃ c0 c1 c2 c3 c4 c5 c6, ds = [c0, c1, c2, c3, c4, c5, c6] := by
  match ds, h with
  | [c0, c1, c2, c3, c4, c5, c6], _ => exact ⟨c0, c1, c2, c3, c4, c5, c6, rfl⟩

theorem shp3 {D' : Nat} {ds : List D} (h : Dk Try.prog (D' + 1) 3 ds) : ∃ y : Int, ds = [.c (.int .i64 y)] ∧ (-9223372036854775808 ≤ y ∧ y ≤ 9223372036854775807) := by
  obtain ⟨x, rfl, hx⟩ := dk_int Try.underlying3 h
  exact ⟨x, rfl, bounds_i64 hx⟩

theorem shp29 {D' : Nat} {ds : List D} (h : Dk Try.prog (D' + 1) 29 ds) : ∃ y : Int, ds = [.c (.int .u64 y)] ∧ (0 ≤ y ∧ y ≤ 18446744073709551615) := by
  obtain ⟨x, rfl, hx⟩ := dk_int Try.underlying29 h
  exact ⟨x, rfl, bounds_u64 hx⟩

theorem shp31 {D' : Nat} {ds : List D} (h : Dk Try.prog (D' + 2) 31 ds) : ∃ y : List Int, ds = [.lst 1 (li .u32 y)] ∧ (y.length * 4 ≤ 140737488351232 ∧ ∀ z ∈ y, 0 ≤ z ∧ z ≤ 4294967295) := by
  obtain ⟨x, rfl, hx, hy⟩ := dk_ints (by_ := 4) Try.underlying31 Try.underlying22 (by kernel_rfl) (by kernel_rfl) h
  exact ⟨x, rfl, hx, fun z hz => bounds_u32 (hy z hz)⟩

theorem shp82 {D' : Nat} {ds : List D} (h : Dk Try.prog (D' + 1) 82 ds) : ∃ y : Int, ds = [.c (.int .u16 y)] ∧ (0 ≤ y ∧ y ≤ 65535) := by
  obtain ⟨x, rfl, hx⟩ := dk_int Try.underlying82 h
  exact ⟨x, rfl, bounds_u16 hx⟩

theorem shp33 {D' : Nat} {ds : List D} (h : Dk Try.prog (D' + 2) 33 ds) : ∃ y : List Int, ds = [.lst 1 (li .u64 y)] ∧ (y.length * 8 ≤ 140737488351232 ∧ ∀ z ∈ y, 0 ≤ z ∧ z ≤ 18446744073709551615) := by
  obtain ⟨x, rfl, hx, hy⟩ := dk_ints (by_ := 8) Try.underlying33 Try.underlying29 (by kernel_rfl) (by kernel_rfl) h
  exact ⟨x, rfl, hx, fun z hz => bounds_u64 (hy z hz)⟩

theorem shp84 {D' : Nat} {ds : List D} (h : Dk Try.prog (D' + 3) 84 ds) : ∃ y : (Int) × (Int) × (List Int), ds = [.c (.int .u16 y.1), .c (.int .i64 y.2.1), .lst 1 (li .u64 y.2.2)] ∧ ((0 ≤ y.1 ∧ y.1 ≤ 65535) ∧ (-9223372036854775808 ≤ y.2.1 ∧ y.2.1 ≤ 9223372036854775807) ∧ (y.2.2.length * 8 ≤ 140737488351232 ∧ ∀ z ∈ y.2.2, 0 ≤ z ∧ z ≤ 18446744073709551615)) := by
  have hl := dk_lenS Try.underlying84 h
  rw [show Try.prog.cellsOf 84 = 3 from by kernel_rfl] at hl
  obtain ⟨d0, d1, d2, rfl⟩ := list_of_size3 hl
  have q0 : Dk Try.prog _ 82 [d0] := dk_struct Try.underlying84 h 0 _ rfl
  obtain ⟨y0, e0, p0⟩ := shp82 q0
  simp only [List.cons.injEq, and_true] at e0
  obtain rfl := e0
  have q1 : Dk Try.prog _ 3 [d1] := dk_struct Try.underlying84 h 1 _ rfl
  obtain ⟨y1, e1, p1⟩ := shp3 q1
  simp only [List.cons.injEq, and_true] at e1
  obtain rfl := e1
  have q2 : Dk Try.prog _ 33 [d2] := dk_struct Try.underlying84 h 2 _ rfl
  obtain ⟨y2, e2, p2⟩ := shp33 q2
  simp only [List.cons.injEq, and_true] at e2
  obtain rfl := e2
  exact ⟨⟨y0, y1, y2⟩, rfl, p0, p1, p2⟩

theorem shp49 {D' : Nat} {ds : List D} (h : Dk Try.prog (D' + 4) 49 ds) : ∃ y : List ((Int) × (Int) × (List Int)), ds = [.lst 3 (y.map fun y => .agg [.c (.int .u16 y.1), .c (.int .i64 y.2.1), .lst 1 (li .u64 y.2.2)])] ∧ (y.length * 40 ≤ 140737488351232 ∧ ∀ e ∈ y, ((0 ≤ e.1 ∧ e.1 ≤ 65535) ∧ (-9223372036854775808 ≤ e.2.1 ∧ e.2.1 ≤ 9223372036854775807) ∧ (e.2.2.length * 8 ≤ 140737488351232 ∧ ∀ z ∈ e.2.2, 0 ≤ z ∧ z ≤ 18446744073709551615))) := by
  obtain ⟨L, rfl, hx, _, hy⟩ := dk_slice Try.underlying49 h
  rw [show Try.prog.bytesOf 84 = 40 from by kernel_rfl] at hx
  rw [show Try.prog.cellsOf 84 = 3 from by kernel_rfl]
  obtain ⟨ys, rfl, hp⟩ := list_map (f := fun y : (Int) × (Int) × (List Int) => (.agg [.c (.int .u16 y.1), .c (.int .i64 y.2.1), .lst 1 (li .u64 y.2.2)] : D)) (p := fun y => ((0 ≤ y.1 ∧ y.1 ≤ 65535) ∧ (-9223372036854775808 ≤ y.2.1 ∧ y.2.1 ≤ 9223372036854775807) ∧ (y.2.2.length * 8 ≤ 140737488351232 ∧ ∀ z ∈ y.2.2, 0 ≤ z ∧ z ≤ 18446744073709551615))) (L := L) fun x hx => by
    obtain ⟨ds, rfl, hd⟩ := hy x hx
    obtain ⟨y, rfl, hq⟩ := shp84 hd
    exact ⟨y, by rw [wrapD, show agT Try.prog 84 = true from by kernel_rfl]; rfl, hq⟩
  exact ⟨ys, rfl, by simpa using hx, hp⟩

theorem shp51 {D' : Nat} {ds : List D} (h : Dk Try.prog (D' + 5) 51 ds) : ∃ y : (Int) × (Int) × (Int) × (Int) × (Int) × (List Int) × (List ((Int) × (Int) × (List Int))), ds = [.c (.int .i64 y.1), .c (.int .i64 y.2.1), .c (.int .i64 y.2.2.1), .c (.int .i64 y.2.2.2.1), .c (.int .u64 y.2.2.2.2.1), .lst 1 (li .u32 y.2.2.2.2.2.1), .lst 3 (y.2.2.2.2.2.2.map fun y => .agg [.c (.int .u16 y.1), .c (.int .i64 y.2.1), .lst 1 (li .u64 y.2.2)])] ∧ ((-9223372036854775808 ≤ y.1 ∧ y.1 ≤ 9223372036854775807) ∧ (-9223372036854775808 ≤ y.2.1 ∧ y.2.1 ≤ 9223372036854775807) ∧ (-9223372036854775808 ≤ y.2.2.1 ∧ y.2.2.1 ≤ 9223372036854775807) ∧ (-9223372036854775808 ≤ y.2.2.2.1 ∧ y.2.2.2.1 ≤ 9223372036854775807) ∧ (0 ≤ y.2.2.2.2.1 ∧ y.2.2.2.2.1 ≤ 18446744073709551615) ∧ (y.2.2.2.2.2.1.length * 4 ≤ 140737488351232 ∧ ∀ z ∈ y.2.2.2.2.2.1, 0 ≤ z ∧ z ≤ 4294967295) ∧ (y.2.2.2.2.2.2.length * 40 ≤ 140737488351232 ∧ ∀ e ∈ y.2.2.2.2.2.2, ((0 ≤ e.1 ∧ e.1 ≤ 65535) ∧ (-9223372036854775808 ≤ e.2.1 ∧ e.2.1 ≤ 9223372036854775807) ∧ (e.2.2.length * 8 ≤ 140737488351232 ∧ ∀ z ∈ e.2.2, 0 ≤ z ∧ z ≤ 18446744073709551615)))) := by
  have hl := dk_lenS Try.underlying51 h
  rw [show Try.prog.cellsOf 51 = 7 from by kernel_rfl] at hl
  obtain ⟨d0, d1, d2, d3, d4, d5, d6, rfl⟩ := list_of_size7 hl
  have q0 : Dk Try.prog _ 3 [d0] := dk_struct Try.underlying51 h 0 _ rfl
  obtain ⟨y0, e0, p0⟩ := shp3 q0
  simp only [List.cons.injEq, and_true] at e0
  obtain rfl := e0
  have q1 : Dk Try.prog _ 3 [d1] := dk_struct Try.underlying51 h 1 _ rfl
  obtain ⟨y1, e1, p1⟩ := shp3 q1
  simp only [List.cons.injEq, and_true] at e1
  obtain rfl := e1
  have q2 : Dk Try.prog _ 3 [d2] := dk_struct Try.underlying51 h 2 _ rfl
  obtain ⟨y2, e2, p2⟩ := shp3 q2
  simp only [List.cons.injEq, and_true] at e2
  obtain rfl := e2
  have q3 : Dk Try.prog _ 3 [d3] := dk_struct Try.underlying51 h 3 _ rfl
  obtain ⟨y3, e3, p3⟩ := shp3 q3
  simp only [List.cons.injEq, and_true] at e3
  obtain rfl := e3
  have q4 : Dk Try.prog _ 29 [d4] := dk_struct Try.underlying51 h 4 _ rfl
  obtain ⟨y4, e4, p4⟩ := shp29 q4
  simp only [List.cons.injEq, and_true] at e4
  obtain rfl := e4
  have q5 : Dk Try.prog _ 31 [d5] := dk_struct Try.underlying51 h 5 _ rfl
  obtain ⟨y5, e5, p5⟩ := shp31 q5
  simp only [List.cons.injEq, and_true] at e5
  obtain rfl := e5
  have q6 : Dk Try.prog _ 49 [d6] := dk_struct Try.underlying51 h 6 _ rfl
  obtain ⟨y6, e6, p6⟩ := shp49 q6
  simp only [List.cons.injEq, and_true] at e6
  obtain rfl := e6
  exact ⟨⟨y0, y1, y2, y3, y4, y5, y6⟩, rfl, p0, p1, p2, p3, p4, p5, p6⟩

theorem shp4 {D' : Nat} {ds : List D} (h : Dk Try.prog (D' + 1) 4 ds) : ∃ y : Bool, ds = [.c (.bool y)] ∧ True := by
  obtain ⟨x, rfl⟩ := dk_bool Try.underlying4 h
  exact ⟨x, rfl, trivial⟩

theorem shp35 {D' : Nat} {ds : List D} (h : Dk Try.prog (D' + 3) 35 ds) : ∃ y : (List Int) × (Bool), ds = [.lst 1 (li .u64 y.1), .c (.bool y.2)] ∧ ((y.1.length * 8 ≤ 140737488351232 ∧ ∀ z ∈ y.1, 0 ≤ z ∧ z ≤ 18446744073709551615) ∧ True) := by
  have hl := dk_lenS Try.underlying35 h
  rw [show Try.prog.cellsOf 35 = 2 from by kernel_rfl] at hl
  obtain ⟨d0, d1, rfl⟩ := list_of_size2 hl
  have q0 : Dk Try.prog _ 33 [d0] := dk_struct Try.underlying35 h 0 _ rfl
  obtain ⟨y0, e0, p0⟩ := shp33 q0
  simp only [List.cons.injEq, and_true] at e0
  obtain rfl := e0
  have q1 : Dk Try.prog _ 4 [d1] := dk_struct Try.underlying35 h 1 _ rfl
  obtain ⟨y1, e1, p1⟩ := shp4 q1
  simp only [List.cons.injEq, and_true] at e1
  obtain rfl := e1
  exact ⟨⟨y0, y1⟩, rfl, p0, p1⟩

set_option maxRecDepth 100000 in
theorem lifted (os : Os) (started : os.Started) (H : Type) (enc : TypeId × Value → H) :
    ReturnsInHanded {} Try.checked os 6 .any (Rows.colourPicturesSpec.pre6 enc Try.prog Try.f6 Rows.colourPicturesRow.domain false) (Rows.colourPicturesSpec.post enc Try.prog Try.f6 false true false false) := by
  refine returnsInHanded_of_change_sized (C := Try.checked) own started (by kernel_rfl) Try.func6
    (ChangeSpec.witness6 (enc := enc) (C := Try.checked) false ⟨#[], #[.agg #[.int .i64 0, .int .i64 0, .int .i64 0, .int .i64 0, .int .u64 0, .slice none 0 0, .slice none 0 0], .agg #[.slice none 0 0, .bool false]], []⟩ 8 (by kernel_rfl) (by kernel_rfl) (by kernel_rfl) (by kernel_rfl)) ?_
  intro W base args ds gs before hval0 hW hcnd hsz0 _
  have hval : ∀ (j : Nat) t v, Try.f6.params[j]? = some t → args[j]? = some v → Value.okWide Try.prog W .any base t v := hval0
  have hsz : (DataW.weightsEach Try.prog (Try.f6.params.toList ++ Rows.colourPicturesSpec.plain.varTypes Try.prog) (ds ++ gs)).all (· ≤ reachBytes) = true := hsz0
  have hW' := hW
  obtain ⟨p, q, hA0, hV, rfl, hfz, hnd⟩ := hW
  have hA : DataW.TrodAll enc Try.prog W 0 (fun _ => true) true Try.f6.params.toList args.toList ds p := hA0
  rw [Try.params6] at hA hval hsz
  obtain ⟨v0, vs0, d0, ds0, p0, q0, hargs, rfl, rfl, h0, r0⟩ := trodAll_cons hA
  obtain ⟨v1, vs1, d1, ds1, p1, q1, rfl, rfl, rfl, h1, r1⟩ := trodAll_cons r0
  obtain ⟨rfl, rfl, rfl⟩ := trodAll_nil r1
  obtain rfl : args = #[v0, v1] := by cases args; simp_all
  obtain ⟨rfl, rfl⟩ := trodVars_none hV
  have k0 := h0
  have lt0 : ∀ x ∈ p0, x.block < W.heap.size := by obtain ⟨m, hm⟩ := k0; exact DataW.trod_lt m _ _ _ hm
  have z0 := sees_arg (P := Try.prog) (w := W) hsz 0 (t := 51) rfl rfl h0 8
  obtain ⟨s0, hd0, hk0⟩ := data_of_sees 8 51 _ (by kernel_rfl) z0
  obtain ⟨cs0, rfl, _⟩ := okWide_aggS Try.underlying51 (hval 0 51 v0 rfl rfl)
  obtain ⟨y0, rfl, hp0⟩ := shp51 (D' := 3) hk0
  have dr0 : DR (fun b => b < W.heap.size) W _ _ := DR.ofN hd0
  have k1 := h1
  have lt1 : ∀ x ∈ p1, x.block < W.heap.size := by obtain ⟨m, hm⟩ := k1; exact DataW.trod_lt m _ _ _ hm
  have z1 := sees_arg (P := Try.prog) (w := W) hsz 1 (t := 35) rfl rfl h1 8
  obtain ⟨s1, hd1, hk1⟩ := data_of_sees 8 35 _ (by kernel_rfl) z1
  obtain ⟨cs1, rfl, _⟩ := okWide_aggS Try.underlying35 (hval 1 35 v1 rfl rfl)
  obtain ⟨y1, rfl, hp1⟩ := shp35 (D' := 5) hk1
  have dr1 : DR (fun b => b < W.heap.size) W _ _ := DR.ofN hd1
  clear hA0 hval0 hsz0 hsz hval
  refine (Giv.calls (by kernel_rfl) (colourPictures_giv y0 hp0 y1 hp1) (w := W) (DRt.cons' dr0 (DRt.cons' dr1 DRt.nil'))).mono fun e W' ⟨he, bel⟩ => ?_
  subst he
  exact ⟨_, rfl, _, _, _, [], _, [], hW', trodAll_mk1 (shut_bool Try.underlying4 _), (trodAll_cons_mk (Below.trod laidOut (by kernel_rfl) (of_decide_eq_true (by kernel_rfl)) k0 bel lt0) (trodAll_cons_mk (Below.trod laidOut (by kernel_rfl) (of_decide_eq_true (by kernel_rfl)) k1 bel lt1) trodAll_mk0)), rfl, bel.frame _, fun h => by cases h⟩

theorem over : Rows.colourPicturesRow.holds Try.pinned (OpenSpec.ofChange Rows.colourPicturesSpec) :=
  OpenClaim.holds_of_wide 6 Try.f6 rfl rfl rfl rfl rfl rfl rfl ⟨rfl, rfl, rfl, rfl, rfl⟩ rfl rfl rfl rfl rfl (by kernel_rfl) Try.func6 (by kernel_rfl)
    (of_decide_eq_true (by kernel_rfl)) (by unfold Func.isWrapper; first | (rw [if_pos (by decide +kernel)]; kernel_rfl) | (rw [if_neg (by decide +kernel)]; exact ⟨rfl, rfl⟩))
    (fun os started H enc _ => lifted os started H enc)

theorem proved : Rows.ColourPicturesSaid := over
#print axioms proved
end Go.Proofs.Ytdhcbaeglfdflaa.colourPictures

/- The statement 'TreeChains': the given row is proved from the law's walk. It is proved for every input that the row speaks of. No further condition. -/
import Derived.Test.YtpjnpmdmcllilaaLChains
import Derived.Test.YtpjnpmdmcllilaaRows
import Derived.Test.YtpjnpmdmcllilaaChecked
import Derived.Test.YtpjnpmdmcllilaaEngT
import Derived.ProofKit
import Derived.OpenShut
import Derived.ShutString
import Derived.ChangeOld
namespace Go.Proofs.Ytpjnpmdmcllilaa.treeChains
open Go.ChangeShapes Go.WideShapes Go.ChangeAt Go.RowKit Go.Shp Go.Eng
open Go.ChangeMaps (open_string shut_string)
set_option linter.unusedVariables false
set_option maxRecDepth 100000

theorem own : ownKnob Try.prog.godebug = none := by kernel_rfl
theorem laidOut : laidOutB Try.prog = true := by kernel_rfl

theorem list_of_size3 {ds : List D} (h : ds.length = 3) : ∃ c0 c1 c2, ds = [c0, c1, c2] := by
  match ds, h with
  | [c0, c1, c2], _ => exact ⟨c0, c1, c2, rfl⟩

theorem shp22 {D' : Nat} {ds : List D} (h : Dk Try.prog (D' + 2) 22 ds) : ∃ y : List Int, ds = [.lst 1 (li .u8 y)] ∧ (y.length * 1 ≤ 140737488351232 ∧ ∀ z ∈ y, 0 ≤ z ∧ z ≤ 255) := by
  obtain ⟨x, rfl, hx, hy⟩ := dk_ints (by_ := 1) Try.underlying22 Try.underlying5 (by kernel_rfl) (by kernel_rfl) h
  exact ⟨x, rfl, hx, fun z hz => bounds_u8 (hy z hz)⟩

theorem shp4 {D' : Nat} {ds : List D} (h : Dk Try.prog (D' + 1) 4 ds) : ∃ y : Bool, ds = [.c (.bool y)] ∧ True := by
  obtain ⟨x, rfl⟩ := dk_bool Try.underlying4 h
  exact ⟨x, rfl, trivial⟩

theorem shp23 {D' : Nat} {ds : List D} (h : Dk Try.prog (D' + 1) 23 ds) : ∃ y : Int, ds = [.c (.int .u64 y)] ∧ (0 ≤ y ∧ y ≤ 18446744073709551615) := by
  obtain ⟨x, rfl, hx⟩ := dk_int Try.underlying23 h
  exact ⟨x, rfl, bounds_u64 hx⟩

theorem shp25 {D' : Nat} {ds : List D} (h : Dk Try.prog (D' + 2) 25 ds) : ∃ y : (Bool) × (Bool) × (Int), ds = [.c (.bool y.1), .c (.bool y.2.1), .c (.int .u64 y.2.2)] ∧ (True ∧ True ∧ (0 ≤ y.2.2 ∧ y.2.2 ≤ 18446744073709551615)) := by
  have hl := dk_lenS Try.underlying25 h
  rw [show Try.prog.cellsOf 25 = 3 from by kernel_rfl] at hl
  obtain ⟨d0, d1, d2, rfl⟩ := list_of_size3 hl
  have q0 : Dk Try.prog _ 4 [d0] := dk_struct Try.underlying25 h 0 _ rfl
  obtain ⟨y0, e0, p0⟩ := shp4 q0
  simp only [List.cons.injEq, and_true] at e0
  obtain rfl := e0
  have q1 : Dk Try.prog _ 4 [d1] := dk_struct Try.underlying25 h 1 _ rfl
  obtain ⟨y1, e1, p1⟩ := shp4 q1
  simp only [List.cons.injEq, and_true] at e1
  obtain rfl := e1
  have q2 : Dk Try.prog _ 23 [d2] := dk_struct Try.underlying25 h 2 _ rfl
  obtain ⟨y2, e2, p2⟩ := shp23 q2
  simp only [List.cons.injEq, and_true] at e2
  obtain rfl := e2
  exact ⟨⟨y0, y1, y2⟩, rfl, p0, p1, p2⟩

theorem shp3 {D' : Nat} {ds : List D} (h : Dk Try.prog (D' + 1) 3 ds) : ∃ y : Int, ds = [.c (.int .i64 y)] ∧ (-9223372036854775808 ≤ y ∧ y ≤ 9223372036854775807) := by
  obtain ⟨x, rfl, hx⟩ := dk_int Try.underlying3 h
  exact ⟨x, rfl, bounds_i64 hx⟩

set_option maxRecDepth 100000 in
theorem lifted (os : Os) (started : os.Started) (H : Type) (enc : TypeId × Value → H) :
    ReturnsInHanded {} Try.checked os 4 .any (Rows.treeChainsSpec.pre6 enc Try.prog Try.f4 Rows.treeChainsRow.domain false) (Rows.treeChainsSpec.post enc Try.prog Try.f4 false true false false) := by
  refine returnsInHanded_of_change_sized (C := Try.checked) own started (by kernel_rfl) Try.func4
    (ChangeSpec.witness6 (enc := enc) (C := Try.checked) false ⟨#[], #[.slice none 0 0, .agg #[.bool false, .bool false, .int .u64 0], .int .i64 0], []⟩ 8 (by kernel_rfl) (by kernel_rfl) (by kernel_rfl) (by kernel_rfl)) ?_
  intro W base args ds gs before hval0 hW hcnd hsz0 _
  have hval : ∀ (j : Nat) t v, Try.f4.params[j]? = some t → args[j]? = some v → Value.okWide Try.prog W .any base t v := hval0
  have hsz : (DataW.weightsEach Try.prog (Try.f4.params.toList ++ Rows.treeChainsSpec.plain.varTypes Try.prog) (ds ++ gs)).all (· ≤ reachBytes) = true := hsz0
  have hW' := hW
  obtain ⟨p, q, hA0, hV, rfl, hfz, hnd⟩ := hW
  have hA : DataW.TrodAll enc Try.prog W 0 (fun _ => true) true Try.f4.params.toList args.toList ds p := hA0
  rw [Try.params4] at hA hval hsz
  obtain ⟨v0, vs0, d0, ds0, p0, q0, hargs, rfl, rfl, h0, r0⟩ := trodAll_cons hA
  obtain ⟨v1, vs1, d1, ds1, p1, q1, rfl, rfl, rfl, h1, r1⟩ := trodAll_cons r0
  obtain ⟨v2, vs2, d2, ds2, p2, q2, rfl, rfl, rfl, h2, r2⟩ := trodAll_cons r1
  obtain ⟨rfl, rfl, rfl⟩ := trodAll_nil r2
  obtain rfl : args = #[v0, v1, v2] := by cases args; simp_all
  obtain ⟨rfl, rfl⟩ := trodVars_none hV
  have k0 := h0
  have lt0 : ∀ x ∈ p0, x.block < W.heap.size := by obtain ⟨m, hm⟩ := k0; exact DataW.trod_lt m _ _ _ hm
  have z0 := sees_arg (P := Try.prog) (w := W) hsz 0 (t := 22) rfl rfl h0 8
  obtain ⟨s0, hd0, hk0⟩ := data_of_sees 8 22 _ (by kernel_rfl) z0
  have u0 : v0.cells.toList = [v0] := by obtain ⟨q, ql, qc, hq⟩ := okWide_slice Try.underlying22 (hval 0 22 v0 rfl rfl); rw [hq]; rfl
  rw [u0] at hd0
  clear u0
  obtain ⟨y0, rfl, hp0⟩ := shp22 (D' := 6) hk0
  have dr0 : DR (fun b => b < W.heap.size) W _ _ := DR.of1 hd0
  have k1 := h1
  have lt1 : ∀ x ∈ p1, x.block < W.heap.size := by obtain ⟨m, hm⟩ := k1; exact DataW.trod_lt m _ _ _ hm
  have z1 := sees_arg (P := Try.prog) (w := W) hsz 1 (t := 25) rfl rfl h1 8
  obtain ⟨s1, hd1, hk1⟩ := data_of_sees 8 25 _ (by kernel_rfl) z1
  obtain ⟨cs1, rfl, _⟩ := okWide_aggS Try.underlying25 (hval 1 25 v1 rfl rfl)
  obtain ⟨y1, rfl, hp1⟩ := shp25 (D' := 6) hk1
  have dr1 : DR (fun b => b < W.heap.size) W _ _ := DR.ofN hd1
  have k2 := h2
  have lt2 : ∀ x ∈ p2, x.block < W.heap.size := by obtain ⟨m, hm⟩ := k2; exact DataW.trod_lt m _ _ _ hm
  have z2 := sees_arg (P := Try.prog) (w := W) hsz 2 (t := 3) rfl rfl h2 8
  obtain ⟨s2, hd2, hk2⟩ := data_of_sees 8 3 _ (by kernel_rfl) z2
  have u2 : v2.cells.toList = [v2] := by obtain ⟨q, hq⟩ := okWide_int Try.underlying3 (hval 2 3 v2 rfl rfl); rw [hq]; rfl
  rw [u2] at hd2
  clear u2
  obtain ⟨y2, rfl, hp2⟩ := shp3 (D' := 7) hk2
  have dr2 : DR (fun b => b < W.heap.size) W _ _ := DR.of1 hd2
  clear hA0 hval0 hsz0 hsz hval
  refine (Giv.calls (by kernel_rfl) (treeChains_giv y0 hp0 y1 hp1 y2 hp2) (w := W) (DRt.cons' dr0 (DRt.cons' dr1 (DRt.cons' dr2 DRt.nil')))).mono fun e W' ⟨he, bel⟩ => ?_
  subst he
  exact ⟨_, rfl, _, _, _, [], _, [], hW', trodAll_mk1 (shut_bool Try.underlying4 _), (trodAll_cons_mk (Below.trod laidOut (by kernel_rfl) (of_decide_eq_true (by kernel_rfl)) k0 bel lt0) (trodAll_cons_mk (Below.trod laidOut (by kernel_rfl) (of_decide_eq_true (by kernel_rfl)) k1 bel lt1) (trodAll_cons_mk (Below.trod laidOut (by kernel_rfl) (of_decide_eq_true (by kernel_rfl)) k2 bel lt2) trodAll_mk0))), rfl, bel.frame _, fun h => by cases h⟩

theorem over : Rows.treeChainsRow.holds Try.pinned (OpenSpec.ofChange Rows.treeChainsSpec) :=
  OpenClaim.holds_of_wide 4 Try.f4 rfl rfl rfl rfl rfl rfl rfl ⟨rfl, rfl, rfl, rfl, rfl⟩ rfl rfl rfl rfl rfl (by kernel_rfl) Try.func4 (by kernel_rfl)
    (of_decide_eq_true (by kernel_rfl)) (by unfold Func.isWrapper; first | (rw [if_pos (by decide +kernel)]; kernel_rfl) | (rw [if_neg (by decide +kernel)]; exact ⟨rfl, rfl⟩))
    (fun os started H enc _ => lifted os started H enc)

theorem proved : Rows.TreeChainsSaid := over
#print axioms proved
end Go.Proofs.Ytpjnpmdmcllilaa.treeChains

/- The statement 'AsciiNumbers': the given row is proved from the law's walk. It is proved for every input that the row speaks of. No further condition. -/
import Derived.Test.YtfighiceodplnaaDoorLNumb
import Derived.Test.YtfighiceodplnaaDoorRows
import Derived.Test.YtfighiceodplnaaDoorChecked
import Derived.Test.YtfighiceodplnaaDoorEngT
import Derived.Test.YtfighiceodplnaaDoorCards
import Derived.Test.YtfighiceodplnaaDoorTie
import Derived.Test.YtfighiceodplnaaDoorLTw
import Derived.LaidMore
import Derived.Stop.Joined
import Derived.SevenTiedAt
import Derived.ProofKit
import Derived.OpenShut
import Derived.ShutString
import Derived.ChangeOld
namespace Go.Proofs.YtfighiceodplnaaDoor.asciiNumbers
open Go.ChangeShapes Go.WideShapes Go.ChangeAt Go.RowKit Go.Shp Go.Eng
open Go.ChangeMaps (open_string shut_string)
set_option linter.unusedVariables false
set_option maxRecDepth 100000

theorem own : ownKnob Tryd.prog.godebug = none := by kernel_rfl
theorem laidOut : laidOutB Tryd.prog = true := by kernel_rfl

theorem list_of_size6 {ds : List D} (h : ds.length = 6) : ∃ c0 c1 c2 c3 c4 c5, ds = [c0, c1, c2, c3, c4, c5] := by
  match ds, h with
  | [c0, c1, c2, c3, c4, c5], _ => exact ⟨c0, c1, c2, c3, c4, c5, rfl⟩

theorem shp3 {D' : Nat} {ds : List D} (h : Dk Tryd.prog (D' + 1) 3 ds) : ∃ y : Int, ds = [.c (.int .i64 y)] ∧ (-9223372036854775808 ≤ y ∧ y ≤ 9223372036854775807) := by
  obtain ⟨x, rfl, hx⟩ := dk_int Tryd.underlying3 h
  exact ⟨x, rfl, bounds_i64 hx⟩

theorem shp24 {D' : Nat} {ds : List D} (h : Dk Tryd.prog (D' + 2) 24 ds) : ∃ y : (Int) × (Int) × (Int) × (Int) × (Int) × (Int), ds = [.c (.int .i64 y.1), .c (.int .i64 y.2.1), .c (.int .i64 y.2.2.1), .c (.int .i64 y.2.2.2.1), .c (.int .i64 y.2.2.2.2.1), .c (.int .i64 y.2.2.2.2.2)] ∧ ((-9223372036854775808 ≤ y.1 ∧ y.1 ≤ 9223372036854775807) ∧ (-9223372036854775808 ≤ y.2.1 ∧ y.2.1 ≤ 9223372036854775807) ∧ (-9223372036854775808 ≤ y.2.2.1 ∧ y.2.2.1 ≤ 9223372036854775807) ∧ (-9223372036854775808 ≤ y.2.2.2.1 ∧ y.2.2.2.1 ≤ 9223372036854775807) ∧ (-9223372036854775808 ≤ y.2.2.2.2.1 ∧ y.2.2.2.2.1 ≤ 9223372036854775807) ∧ (-9223372036854775808 ≤ y.2.2.2.2.2 ∧ y.2.2.2.2.2 ≤ 9223372036854775807)) := by
  have hl := dk_lenS Tryd.underlying24 h
  rw [show Tryd.prog.cellsOf 24 = 6 from by kernel_rfl] at hl
  obtain ⟨d0, d1, d2, d3, d4, d5, rfl⟩ := list_of_size6 hl
  have q0 : Dk Tryd.prog _ 3 [d0] := dk_struct Tryd.underlying24 h 0 _ rfl
  obtain ⟨y0, e0, p0⟩ := shp3 q0
  simp only [List.cons.injEq, and_true] at e0
  obtain rfl := e0
  have q1 : Dk Tryd.prog _ 3 [d1] := dk_struct Tryd.underlying24 h 1 _ rfl
  obtain ⟨y1, e1, p1⟩ := shp3 q1
  simp only [List.cons.injEq, and_true] at e1
  obtain rfl := e1
  have q2 : Dk Tryd.prog _ 3 [d2] := dk_struct Tryd.underlying24 h 2 _ rfl
  obtain ⟨y2, e2, p2⟩ := shp3 q2
  simp only [List.cons.injEq, and_true] at e2
  obtain rfl := e2
  have q3 : Dk Tryd.prog _ 3 [d3] := dk_struct Tryd.underlying24 h 3 _ rfl
  obtain ⟨y3, e3, p3⟩ := shp3 q3
  simp only [List.cons.injEq, and_true] at e3
  obtain rfl := e3
  have q4 : Dk Tryd.prog _ 3 [d4] := dk_struct Tryd.underlying24 h 4 _ rfl
  obtain ⟨y4, e4, p4⟩ := shp3 q4
  simp only [List.cons.injEq, and_true] at e4
  obtain rfl := e4
  have q5 : Dk Tryd.prog _ 3 [d5] := dk_struct Tryd.underlying24 h 5 _ rfl
  obtain ⟨y5, e5, p5⟩ := shp3 q5
  simp only [List.cons.injEq, and_true] at e5
  obtain rfl := e5
  exact ⟨⟨y0, y1, y2, y3, y4, y5⟩, rfl, p0, p1, p2, p3, p4, p5⟩

theorem door_met (os : Os) (args : Array Value) : laidMetH Tryd.prog Rows.asciiNumbersRow.laid ((World.doorLaid Tryd.prog 24 os).forCall (fun _ _ => 0) ⟨#[], args, []⟩).memory :=
  laidMetH_of_parts3 (fuel := 8) (laidMet_of_run' 8 (by kernel_rfl) (by kernel_rfl)) (by kernel_rfl) (by kernel_rfl)

set_option maxRecDepth 100000 in
theorem lifted (os : Os) (started : os.Started) (H : Type) (enc : TypeId × Value → H) :
    ReturnsInHanded {} Tryd.checked os 4 .any (fun w args => (Rows.asciiNumbersSpec.pre enc Tryd.prog Tryd.f4 [] false w args ∧ laidMetH Tryd.prog Rows.asciiNumbersRow.laid w) ∧ sizedMet enc Tryd.prog Tryd.f4 (OpenSpec.ofChange Rows.asciiNumbersSpec) false w args)
      (Rows.asciiNumbersSpec.post enc Tryd.prog Tryd.f4 false true false false) := by
  refine returnsInHanded_of_change_and (C := Tryd.checked) (X := fun w _ => laidMetH Tryd.prog Rows.asciiNumbersRow.laid w) (fun _ _ _ hh h => h.of_heap hh) own started (by kernel_rfl) Tryd.func4
    (ChangeSpec.witness_shaped (enc := enc) (C := Tryd.checked) (os := os) (X := fun w _ => laidMetH Tryd.prog Rows.asciiNumbersRow.laid w) false (World.doorLaid Tryd.prog 24 os) #[.agg #[.int .i64 0, .int .i64 0, .int .i64 0, .int .i64 0, .int .i64 0, .int .i64 0]] 8 rfl (World.shaped_of_RefB (by kernel_rfl) (by kernel_rfl)) (by kernel_rfl) (by kernel_rfl) (by kernel_rfl) (door_met os _)) ?_
  intro W base args ds gs before hval0 hW hcnd hsz0 hL _
  have hval : ∀ (j : Nat) t v, Tryd.f4.params[j]? = some t → args[j]? = some v → Value.okWide Tryd.prog W .any base t v := hval0
  have hsz : (DataW.weightsEach Tryd.prog (Tryd.f4.params.toList ++ Rows.asciiNumbersSpec.plain.varTypes Tryd.prog) (ds ++ gs)).all (· ≤ reachBytes) = true := hsz0
  have hW' := hW
  obtain ⟨p, q, hA0, hV, rfl, hfz, hnd⟩ := hW
  have hA : DataW.TrodAll enc Tryd.prog W 0 (fun _ => true) true Tryd.f4.params.toList args.toList ds p := hA0
  rw [Tryd.params4] at hA hval hsz
  obtain ⟨v0, vs0, d0, ds0, p0, q0, hargs, rfl, rfl, h0, r0⟩ := trodAll_cons hA
  obtain ⟨rfl, rfl, rfl⟩ := trodAll_nil r0
  obtain rfl : args = #[v0] := by cases args; simp_all
  obtain ⟨rfl, rfl⟩ := trodVars_none hV
  have k0 := h0
  have lt0 : ∀ x ∈ p0, x.block < W.heap.size := by obtain ⟨m, hm⟩ := k0; exact DataW.trod_lt m _ _ _ hm
  have z0 := sees_arg (P := Tryd.prog) (w := W) hsz 0 (t := 24) rfl rfl h0 8
  obtain ⟨s0, hd0, hk0⟩ := data_of_sees 8 24 _ (by kernel_rfl) z0
  obtain ⟨cs0, rfl, _⟩ := okWide_aggS Tryd.underlying24 (hval 0 24 v0 rfl rfl)
  obtain ⟨y0, rfl, hp0⟩ := shp24 (D' := 6) hk0
  have dr0 : DR (fun b => b < W.heap.size) W _ _ := DR.ofN hd0
  clear hA0 hval0 hsz0 hsz hval
  refine (Giv.calls (by kernel_rfl) (asciiNumbers_giv y0 hp0) (w := W) (DRt.cons' dr0 DRt.nil') (tw_of_laid hL)).mono fun e W' ⟨he, bel⟩ => ?_
  subst he
  exact ⟨_, rfl, _, _, _, [], _, [], hW', trodAll_mk1 (shut_bool Tryd.underlying4 _), (trodAll_cons_mk (Below.trod laidOut (by kernel_rfl) (of_decide_eq_true (by kernel_rfl)) k0 bel lt0) trodAll_mk0), rfl, bel.frame _, fun h => by cases h⟩

theorem over : Rows.asciiNumbersRow.holds Tryd.pinned (OpenSpec.ofChange Rows.asciiNumbersSpec) :=
  OpenClaim.holds_of_wide 4 Tryd.f4 rfl rfl rfl rfl rfl rfl rfl ⟨rfl, rfl, rfl, rfl, rfl⟩ rfl rfl rfl rfl rfl (by kernel_rfl) Tryd.func4 (by kernel_rfl)
    (of_decide_eq_true (by kernel_rfl)) (by unfold Func.isWrapper; first | (rw [if_pos (by decide +kernel)]; kernel_rfl) | (rw [if_neg (by decide +kernel)]; exact ⟨rfl, rfl⟩))
    (fun os started H enc _ => lifted os started H enc)

theorem proved : Rows.AsciiNumbersCardSaid :=
  Claim7.holds_tied_plain_at .later [] [.data, .data, .data] true (true, "7da85ac3e05fb905a66646303da46b3d83b90467e59069b23047638854be37f5") false
    over (fun _ h => by cases h) (by kernel_rfl) (fun _ h => by cases h) asciiNumbers_row_tie rfl ⟨rfl, rfl⟩ (by kernel_rfl) rfl
    (fun f fn hf hfn => by
      obtain rfl : f = 4 := Option.some.inj ((show Tryd.prog.funcNamed "mezzotint/mezzotintlaw30.AsciiNumbers" = some 4 by kernel_rfl).symm.trans hf) |>.symm
      obtain rfl : fn = Tryd.f4 := (Option.some.inj (Tryd.func4.symm.trans hfn)).symm
      exact ⟨by kernel_rfl, fun j t ht => by
        rw [Tryd.params4] at ht
        have hm : t ∈ [24] := by simpa using Array.mem_of_getElem? ht
        have hall : ([24].all fun u => !Tryd.prog.wantsStandIn u) = true := by kernel_rfl
        exact (show Tryd.prog.wantsStandIn t = false by simpa using List.all_eq_true.1 hall t hm)⟩)
    (by kernel_rfl)
#print axioms proved
end Go.Proofs.YtfighiceodplnaaDoor.asciiNumbers

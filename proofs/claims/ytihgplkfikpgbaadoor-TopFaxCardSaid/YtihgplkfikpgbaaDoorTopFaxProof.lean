/- The statement 'TopFax': the given row is proved from the law's walk. It is proved for every input that the row speaks of. No further condition. -/
import Derived.Test.YtihgplkfikpgbaaDoorLTop
import Derived.Test.YtihgplkfikpgbaaDoorRows
import Derived.Test.YtihgplkfikpgbaaDoorChecked
import Derived.Test.YtihgplkfikpgbaaDoorEngT
import Derived.Test.YtihgplkfikpgbaaDoorCards
import Derived.Test.YtihgplkfikpgbaaDoorTie
import Derived.Test.YtihgplkfikpgbaaDoorLTw
import Derived.LaidMore
import Derived.Stop.Joined
import Derived.SevenTiedAt
import Derived.ProofKit
import Derived.OpenShut
import Derived.ShutString
import Derived.ChangeOld
namespace Go.Proofs.YtihgplkfikpgbaaDoor.topFax
open Go.ChangeShapes Go.WideShapes Go.ChangeAt Go.RowKit Go.Shp Go.Eng
open Go.ChangeMaps (open_string shut_string)
set_option linter.unusedVariables false
set_option maxRecDepth 100000

theorem own : ownKnob Tryd.prog.godebug = none := by kernel_rfl
theorem laidOut : laidOutB Tryd.prog = true := by kernel_rfl

theorem list_of_size4 {ds : List D} (h : ds.length = 4) : ∃ c0 c1 c2 c3, ds = [c0, c1, c2, c3] := by
  match ds, h with
  | [c0, c1, c2, c3], _ => exact ⟨c0, c1, c2, c3, rfl⟩

theorem shp22 {D' : Nat} {ds : List D} (h : Dk Tryd.prog (D' + 2) 22 ds) : ∃ y : List Int, ds = [.lst 1 (li .u8 y)] ∧ (y.length * 1 ≤ 140737488351232 ∧ ∀ z ∈ y, 0 ≤ z ∧ z ≤ 255) := by
  obtain ⟨x, rfl, hx, hy⟩ := dk_ints (by_ := 1) Tryd.underlying22 Tryd.underlying5 (by kernel_rfl) (by kernel_rfl) h
  exact ⟨x, rfl, hx, fun z hz => bounds_u8 (hy z hz)⟩

theorem shp3 {D' : Nat} {ds : List D} (h : Dk Tryd.prog (D' + 1) 3 ds) : ∃ y : Int, ds = [.c (.int .i64 y)] ∧ (-9223372036854775808 ≤ y ∧ y ≤ 9223372036854775807) := by
  obtain ⟨x, rfl, hx⟩ := dk_int Tryd.underlying3 h
  exact ⟨x, rfl, bounds_i64 hx⟩

theorem shp4 {D' : Nat} {ds : List D} (h : Dk Tryd.prog (D' + 1) 4 ds) : ∃ y : Bool, ds = [.c (.bool y)] ∧ True := by
  obtain ⟨x, rfl⟩ := dk_bool Tryd.underlying4 h
  exact ⟨x, rfl, trivial⟩

theorem shp24 {D' : Nat} {ds : List D} (h : Dk Tryd.prog (D' + 2) 24 ds) : ∃ y : (Bool) × (Int) × (Bool) × (Bool), ds = [.c (.bool y.1), .c (.int .i64 y.2.1), .c (.bool y.2.2.1), .c (.bool y.2.2.2)] ∧ (True ∧ (-9223372036854775808 ≤ y.2.1 ∧ y.2.1 ≤ 9223372036854775807) ∧ True ∧ True) := by
  have hl := dk_lenS Tryd.underlying24 h
  rw [show Tryd.prog.cellsOf 24 = 4 from by kernel_rfl] at hl
  obtain ⟨d0, d1, d2, d3, rfl⟩ := list_of_size4 hl
  have q0 : Dk Tryd.prog _ 4 [d0] := dk_struct Tryd.underlying24 h 0 _ rfl
  obtain ⟨y0, e0, p0⟩ := shp4 q0
  simp only [List.cons.injEq, and_true] at e0
  obtain rfl := e0
  have q1 : Dk Tryd.prog _ 3 [d1] := dk_struct Tryd.underlying24 h 1 _ rfl
  obtain ⟨y1, e1, p1⟩ := shp3 q1
  simp only [List.cons.injEq, and_true] at e1
  obtain rfl := e1
  have q2 : Dk Tryd.prog _ 4 [d2] := dk_struct Tryd.underlying24 h 2 _ rfl
  obtain ⟨y2, e2, p2⟩ := shp4 q2
  simp only [List.cons.injEq, and_true] at e2
  obtain rfl := e2
  have q3 : Dk Tryd.prog _ 4 [d3] := dk_struct Tryd.underlying24 h 3 _ rfl
  obtain ⟨y3, e3, p3⟩ := shp4 q3
  simp only [List.cons.injEq, and_true] at e3
  obtain rfl := e3
  exact ⟨⟨y0, y1, y2, y3⟩, rfl, p0, p1, p2, p3⟩

theorem door_met (os : Os) (args : Array Value) : laidMetH Tryd.prog Rows.topFaxRow.laid ((World.doorLaid Tryd.prog 33 os).forCall (fun _ _ => 0) ⟨#[], args, []⟩).memory :=
  laidMetH_of_parts3 (fuel := 8) (laidMet_of_run' 8 (by kernel_rfl) (by kernel_rfl)) (by kernel_rfl) (by kernel_rfl)

set_option maxRecDepth 100000 in
theorem lifted (os : Os) (started : os.Started) (H : Type) (enc : TypeId × Value → H) :
    ReturnsInHanded {} Tryd.checked os 3 .any (fun w args => (Rows.topFaxSpec.pre enc Tryd.prog Tryd.f3 [] false w args ∧ laidMetH Tryd.prog Rows.topFaxRow.laid w) ∧ sizedMet enc Tryd.prog Tryd.f3 (OpenSpec.ofChange Rows.topFaxSpec) false w args)
      (Rows.topFaxSpec.post enc Tryd.prog Tryd.f3 false true false false) := by
  refine returnsInHanded_of_change_and (C := Tryd.checked) (X := fun w _ => laidMetH Tryd.prog Rows.topFaxRow.laid w) (fun _ _ _ hh h => h.of_heap hh) own started (by kernel_rfl) Tryd.func3
    (ChangeSpec.witness_shaped (enc := enc) (C := Tryd.checked) (os := os) (X := fun w _ => laidMetH Tryd.prog Rows.topFaxRow.laid w) false (World.doorLaid Tryd.prog 33 os) #[.slice none 0 0, .int .i64 0, .agg #[.bool false, .int .i64 0, .bool false, .bool false]] 8 rfl (World.shaped_of_RefB (by kernel_rfl) (by kernel_rfl)) (by kernel_rfl) (by kernel_rfl) (by kernel_rfl) (door_met os _)) ?_
  intro W base args ds gs before hval0 hW hcnd hsz0 hL _
  have hval : ∀ (j : Nat) t v, Tryd.f3.params[j]? = some t → args[j]? = some v → Value.okWide Tryd.prog W .any base t v := hval0
  have hsz : (DataW.weightsEach Tryd.prog (Tryd.f3.params.toList ++ Rows.topFaxSpec.plain.varTypes Tryd.prog) (ds ++ gs)).all (· ≤ reachBytes) = true := hsz0
  have hW' := hW
  obtain ⟨p, q, hA0, hV, rfl, hfz, hnd⟩ := hW
  have hA : DataW.TrodAll enc Tryd.prog W 0 (fun _ => true) true Tryd.f3.params.toList args.toList ds p := hA0
  rw [Tryd.params3] at hA hval hsz
  obtain ⟨v0, vs0, d0, ds0, p0, q0, hargs, rfl, rfl, h0, r0⟩ := trodAll_cons hA
  obtain ⟨v1, vs1, d1, ds1, p1, q1, rfl, rfl, rfl, h1, r1⟩ := trodAll_cons r0
  obtain ⟨v2, vs2, d2, ds2, p2, q2, rfl, rfl, rfl, h2, r2⟩ := trodAll_cons r1
  obtain ⟨rfl, rfl, rfl⟩ := trodAll_nil r2
  obtain rfl : args = #[v0, v1, v2] := by cases args; simp_all
  obtain ⟨rfl, rfl⟩ := trodVars_none hV
  have k0 := h0
  have lt0 : ∀ x ∈ p0, x.block < W.heap.size := by obtain ⟨m, hm⟩ := k0; exact DataW.trod_lt m _ _ _ hm
  have z0 := sees_arg (P := Tryd.prog) (w := W) hsz 0 (t := 22) rfl rfl h0 8
  obtain ⟨s0, hd0, hk0⟩ := data_of_sees 8 22 _ (by kernel_rfl) z0
  have u0 : v0.cells.toList = [v0] := by obtain ⟨q, ql, qc, hq⟩ := okWide_slice Tryd.underlying22 (hval 0 22 v0 rfl rfl); rw [hq]; rfl
  rw [u0] at hd0
  clear u0
  obtain ⟨y0, rfl, hp0⟩ := shp22 (D' := 6) hk0
  have dr0 : DR (fun b => b < W.heap.size) W _ _ := DR.of1 hd0
  have k1 := h1
  have lt1 : ∀ x ∈ p1, x.block < W.heap.size := by obtain ⟨m, hm⟩ := k1; exact DataW.trod_lt m _ _ _ hm
  have z1 := sees_arg (P := Tryd.prog) (w := W) hsz 1 (t := 3) rfl rfl h1 8
  obtain ⟨s1, hd1, hk1⟩ := data_of_sees 8 3 _ (by kernel_rfl) z1
  have u1 : v1.cells.toList = [v1] := by obtain ⟨q, hq⟩ := okWide_int Tryd.underlying3 (hval 1 3 v1 rfl rfl); rw [hq]; rfl
  rw [u1] at hd1
  clear u1
  obtain ⟨y1, rfl, hp1⟩ := shp3 (D' := 7) hk1
  have dr1 : DR (fun b => b < W.heap.size) W _ _ := DR.of1 hd1
  have k2 := h2
  have lt2 : ∀ x ∈ p2, x.block < W.heap.size := by obtain ⟨m, hm⟩ := k2; exact DataW.trod_lt m _ _ _ hm
  have z2 := sees_arg (P := Tryd.prog) (w := W) hsz 2 (t := 24) rfl rfl h2 8
  obtain ⟨s2, hd2, hk2⟩ := data_of_sees 8 24 _ (by kernel_rfl) z2
  obtain ⟨cs2, rfl, _⟩ := okWide_aggS Tryd.underlying24 (hval 2 24 v2 rfl rfl)
  obtain ⟨y2, rfl, hp2⟩ := shp24 (D' := 6) hk2
  have dr2 : DR (fun b => b < W.heap.size) W _ _ := DR.ofN hd2
  clear hA0 hval0 hsz0 hsz hval
  refine (Giv.calls (by kernel_rfl) (topFax_giv y0 hp0 y1 hp1 y2 hp2) (w := W) (DRt.cons' dr0 (DRt.cons' dr1 (DRt.cons' dr2 DRt.nil'))) (tw_of_laid hL)).mono fun e W' ⟨he, bel⟩ => ?_
  subst he
  exact ⟨_, rfl, _, _, _, [], _, [], hW', trodAll_mk1 (shut_bool Tryd.underlying4 _), (trodAll_cons_mk (Below.trod laidOut (by kernel_rfl) (of_decide_eq_true (by kernel_rfl)) k0 bel lt0) (trodAll_cons_mk (Below.trod laidOut (by kernel_rfl) (of_decide_eq_true (by kernel_rfl)) k1 bel lt1) (trodAll_cons_mk (Below.trod laidOut (by kernel_rfl) (of_decide_eq_true (by kernel_rfl)) k2 bel lt2) trodAll_mk0))), rfl, bel.frame _, fun h => by cases h⟩

theorem over : Rows.topFaxRow.holds Tryd.pinned (OpenSpec.ofChange Rows.topFaxSpec) :=
  OpenClaim.holds_of_wide 3 Tryd.f3 rfl rfl rfl rfl rfl rfl rfl ⟨rfl, rfl, rfl, rfl, rfl⟩ rfl rfl rfl rfl rfl (by kernel_rfl) Tryd.func3 (by kernel_rfl)
    (of_decide_eq_true (by kernel_rfl)) (by unfold Func.isWrapper; first | (rw [if_pos (by decide +kernel)]; kernel_rfl) | (rw [if_neg (by decide +kernel)]; exact ⟨rfl, rfl⟩))
    (fun os started H enc _ => lifted os started H enc)

theorem proved : Rows.TopFaxCardSaid :=
  Claim7.holds_tied_plain_at .later [] [.listed, .data] true (true, "7edbc47e4bfbedd307adc49335c45574573fb5582237453305b1e7f45b0a6111") false
    over (fun _ h => by cases h) (by kernel_rfl) (fun _ h => by cases h) topFax_row_tie rfl ⟨rfl, rfl⟩ (by kernel_rfl) rfl
    (fun f fn hf hfn => by
      obtain rfl : f = 3 := Option.some.inj ((show Tryd.prog.funcNamed "mezzotint/mezzotinttop.TopFax" = some 3 by kernel_rfl).symm.trans hf) |>.symm
      obtain rfl : fn = Tryd.f3 := (Option.some.inj (Tryd.func3.symm.trans hfn)).symm
      exact ⟨by kernel_rfl, fun j t ht => by
        rw [Tryd.params3] at ht
        have hm : t ∈ [22, 3, 24] := by simpa using Array.mem_of_getElem? ht
        have hall : ([22, 3, 24].all fun u => !Tryd.prog.wantsStandIn u) = true := by kernel_rfl
        exact (show Tryd.prog.wantsStandIn t = false by simpa using List.all_eq_true.1 hall t hm)⟩)
    (by kernel_rfl)
#print axioms proved
end Go.Proofs.YtihgplkfikpgbaaDoor.topFax

/- The statement 'RegistryShows': the given row is proved from the law's walk. It is proved for every input that the row speaks of. No further condition. -/
import Derived.Test.YthbdglibakjfbaaDoorWLaw2
import Derived.Test.YthbdglibakjfbaaDoorRows
import Derived.Test.YthbdglibakjfbaaDoorChecked
import Derived.Test.YthbdglibakjfbaaDoorEngT
import Derived.Test.YthbdglibakjfbaaDoorCards
import Derived.Test.YthbdglibakjfbaaDoorTie
import Derived.Test.YthbdglibakjfbaaDoorLTw
import Derived.LaidMore
import Derived.Lay
import Derived.Stop.Joined
import Derived.SevenTiedAt
import Derived.ProofKit
import Derived.OpenShut
import Derived.ShutString
import Derived.ChangeOld
namespace Go.Proofs.YthbdglibakjfbaaDoor.registryShows
open Go.ChangeShapes Go.WideShapes Go.ChangeAt Go.RowKit Go.Shp Go.Eng
open Go.ChangeMaps (open_string shut_string)
set_option linter.unusedVariables false
set_option maxRecDepth 100000

theorem own : ownKnob Tryd.prog.godebug = none := by kernel_rfl
theorem laidOut : laidOutB Tryd.prog = true := by kernel_rfl

set_option linter.unusedSectionVars false
section
variable [Inhabited Lo]
theorem list_of_size3 {ds : List D} (h : ds.length = 3) : ∃ c0 c1 c2, ds = [c0, c1, c2] := by
  match ds, h with
  | [c0, c1, c2], _ => exact ⟨c0, c1, c2, rfl⟩

theorem shp22 {D' : Nat} {ds : List D} (h : Dk Tryd.prog (D' + 1) 22 ds) : ∃ y : Int, ds = [.c (.int .u16 y)] ∧ (0 ≤ y ∧ y ≤ 65535) := by
  obtain ⟨x, rfl, hx⟩ := dk_int Tryd.underlying22 h
  exact ⟨x, rfl, bounds_u16 hx⟩

theorem shp3 {D' : Nat} {ds : List D} (h : Dk Tryd.prog (D' + 1) 3 ds) : ∃ y : Int, ds = [.c (.int .i64 y)] ∧ (-9223372036854775808 ≤ y ∧ y ≤ 9223372036854775807) := by
  obtain ⟨x, rfl, hx⟩ := dk_int Tryd.underlying3 h
  exact ⟨x, rfl, bounds_i64 hx⟩

theorem shp39 {D' : Nat} {ds : List D} (h : Dk Tryd.prog (D' + 2) 39 ds) : ∃ y : List Int, ds = [.lst 1 (li .u64 y)] ∧ (y.length * 8 ≤ 140737488351232 ∧ ∀ z ∈ y, 0 ≤ z ∧ z ≤ 18446744073709551615) := by
  obtain ⟨x, rfl, hx, hy⟩ := dk_ints (by_ := 8) Tryd.underlying39 Tryd.underlying56 (by kernel_rfl) (by kernel_rfl) h
  exact ⟨x, rfl, hx, fun z hz => bounds_u64 (hy z hz)⟩

theorem shp41 {D' : Nat} {ds : List D} (h : Dk Tryd.prog (D' + 3) 41 ds) : ∃ y : (Int) × (Int) × (List Int), ds = [.c (.int .u16 y.1), .c (.int .i64 y.2.1), .lst 1 (li .u64 y.2.2)] ∧ ((0 ≤ y.1 ∧ y.1 ≤ 65535) ∧ (-9223372036854775808 ≤ y.2.1 ∧ y.2.1 ≤ 9223372036854775807) ∧ (y.2.2.length * 8 ≤ 140737488351232 ∧ ∀ z ∈ y.2.2, 0 ≤ z ∧ z ≤ 18446744073709551615)) := by
  have hl := dk_lenS Tryd.underlying41 h
  rw [show Tryd.prog.cellsOf 41 = 3 from by kernel_rfl] at hl
  obtain ⟨d0, d1, d2, rfl⟩ := list_of_size3 hl
  have q0 : Dk Tryd.prog _ 22 [d0] := dk_struct Tryd.underlying41 h 0 _ rfl
  obtain ⟨y0, e0, p0⟩ := shp22 q0
  simp only [List.cons.injEq, and_true] at e0
  obtain rfl := e0
  have q1 : Dk Tryd.prog _ 3 [d1] := dk_struct Tryd.underlying41 h 1 _ rfl
  obtain ⟨y1, e1, p1⟩ := shp3 q1
  simp only [List.cons.injEq, and_true] at e1
  obtain rfl := e1
  have q2 : Dk Tryd.prog _ 39 [d2] := dk_struct Tryd.underlying41 h 2 _ rfl
  obtain ⟨y2, e2, p2⟩ := shp39 q2
  simp only [List.cons.injEq, and_true] at e2
  obtain rfl := e2
  exact ⟨⟨y0, y1, y2⟩, rfl, p0, p1, p2⟩

end

theorem door_met (os : Os) (args : Array Value) : laidMetH Tryd.prog Rows.registryShowsRow.laid ((World.laidAll Tryd.prog os Rows.registryShowsRow.laid).forCall (fun _ _ => 0) ⟨#[], args, []⟩).memory := by
  rw [MakeChecks.laidMetH_plain _ _ _ (by kernel_rfl)]
  exact laidMet_laidAll _ (by kernel_rfl) (by kernel_rfl)

set_option maxRecDepth 100000 in
theorem lifted (os : Os) (started : os.Started) (H : Type) (enc : TypeId × Value → H) :
    ReturnsInHanded {} Tryd.checked os 4 .any (fun w args => (Rows.registryShowsSpec.pre enc Tryd.prog Tryd.f4 [] false w args ∧ laidMetH Tryd.prog Rows.registryShowsRow.laid w) ∧ sizedMet enc Tryd.prog Tryd.f4 (OpenSpec.ofChange Rows.registryShowsSpec) false w args)
      (Rows.registryShowsSpec.post enc Tryd.prog Tryd.f4 false true false false) := by
  refine returnsInHanded_of_change_and (C := Tryd.checked) (X := fun w _ => laidMetH Tryd.prog Rows.registryShowsRow.laid w) (fun _ _ _ hh h => h.of_heap hh) own started (by kernel_rfl) Tryd.func4
    (ChangeSpec.witness_shaped (enc := enc) (C := Tryd.checked) (os := os) (X := fun w _ => laidMetH Tryd.prog Rows.registryShowsRow.laid w) false (World.laidAll Tryd.prog os Rows.registryShowsRow.laid) #[.agg #[.int .u16 0, .int .i64 0, .slice none 0 0]] 8 (World.laidAll_os _ _ _) (World.shaped_of_ZipB (by kernel_rfl) (by kernel_rfl)) (by kernel_rfl) (by kernel_rfl) (by kernel_rfl) (door_met os _)) ?_
  intro W base args ds gs before hval0 hW hcnd hsz0 hL _
  obtain ⟨l0, hl0⟩ := laid_lo2 hL
  letI : Inhabited Lo := ⟨l0⟩
  have htw : Tw W := by rw [← hl0]; exact Tw.self
  have hval : ∀ (j : Nat) t v, Tryd.f4.params[j]? = some t → args[j]? = some v → Value.okWide Tryd.prog W .any base t v := hval0
  have hsz : (DataW.weightsEach Tryd.prog (Tryd.f4.params.toList ++ Rows.registryShowsSpec.plain.varTypes Tryd.prog) (ds ++ gs)).all (· ≤ reachBytes) = true := hsz0
  have hW' := hW
  obtain ⟨p, q, hA0, hV, rfl, hfz, hnd⟩ := hW
  have hA : DataW.TrodAll enc Tryd.prog W 0 (fun _ => true) true Tryd.f4.params.toList args.toList ds p := hA0
  rw [Tryd.params4] at hA hval hsz
  obtain ⟨v0, vs0, d0, ds0, p0, q0, hargs, rfl, rfl, h0, r0⟩ := trodAll_cons hA
  obtain ⟨rfl, rfl, rfl⟩ := trodAll_nil r0
  obtain rfl : args = #[v0] := by cases args; simp_all
  obtain ⟨rfl, rfl⟩ := trodVars_none hV
  have k0 := h0
  have lt0 : ∀ x ∈ p0, x.block < W.heap.size := by obtain ⟨m, hm⟩ := k0; exact DataW.trod_lt m _ _ _ hm
  have z0 := sees_arg (P := Tryd.prog) (w := W) hsz 0 (t := 41) rfl rfl h0 8
  obtain ⟨s0, hd0, hk0⟩ := data_of_sees 8 41 _ (by kernel_rfl) z0
  obtain ⟨cs0, rfl, _⟩ := okWide_aggS Tryd.underlying41 (hval 0 41 v0 rfl rfl)
  obtain ⟨y0, rfl, hp0⟩ := shp41 (D' := 5) hk0
  have dr0 : DR (fun b => b < W.heap.size) W _ _ := DR.ofN hd0
  clear hA0 hval0 hsz0 hsz hval
  refine (Giv.calls (by kernel_rfl) (registryShows_giv y0 hp0) (w := W) (DRt.cons' dr0 DRt.nil') htw).mono fun e W' ⟨he, bel⟩ => ?_
  subst he
  exact ⟨_, rfl, _, _, _, [], _, [], hW', trodAll_mk1 (shut_bool Tryd.underlying4 _), (trodAll_cons_mk (Below.trod laidOut (by kernel_rfl) (of_decide_eq_true (by kernel_rfl)) k0 bel lt0) trodAll_mk0), rfl, bel.frame _, fun h => by cases h⟩

theorem over : Rows.registryShowsRow.holds Tryd.pinned (OpenSpec.ofChange Rows.registryShowsSpec) :=
  OpenClaim.holds_of_wide 4 Tryd.f4 rfl rfl rfl rfl rfl rfl rfl ⟨rfl, rfl, rfl, rfl, rfl⟩ rfl rfl rfl rfl rfl (by kernel_rfl) Tryd.func4 (by kernel_rfl)
    (of_decide_eq_true (by kernel_rfl)) (by unfold Func.isWrapper; first | (rw [if_pos (by decide +kernel)]; kernel_rfl) | (rw [if_neg (by decide +kernel)]; exact ⟨rfl, rfl⟩))
    (fun os started H enc _ => lifted os started H enc)

theorem proved : Rows.RegistryShowsCardSaid :=
  Claim7.holds_tied_plain_at .later [] [.data, .data, .data, .data, .sentinel, .sentinel, .listed, .data, .pinned, .pinned, .pinned, .pinned, .pinned, .pinned] true (true, "58dbe7420afbae09ac8aef0474196280468081f673f95ef8789277a05cd12044") true
    over (fun _ h => by cases h) (by kernel_rfl) (fun _ h => by cases h) registryShows_row_tie rfl ⟨rfl, rfl⟩ (by kernel_rfl) rfl
    (fun f fn hf hfn => by
      obtain rfl : f = 4 := Option.some.inj ((show Tryd.prog.funcNamed "mezzotint/mezzotintlaw31.RegistryShows" = some 4 by kernel_rfl).symm.trans hf) |>.symm
      obtain rfl : fn = Tryd.f4 := (Option.some.inj (Tryd.func4.symm.trans hfn)).symm
      exact ⟨by kernel_rfl, fun j t ht => by
        rw [Tryd.params4] at ht
        have hm : t ∈ [41] := by simpa using Array.mem_of_getElem? ht
        have hall : ([41].all fun u => !Tryd.prog.wantsStandIn u) = true := by kernel_rfl
        exact (show Tryd.prog.wantsStandIn t = false by simpa using List.all_eq_true.1 hall t hm)⟩)
    (by kernel_rfl)
#print axioms proved
end Go.Proofs.YthbdglibakjfbaaDoor.registryShows

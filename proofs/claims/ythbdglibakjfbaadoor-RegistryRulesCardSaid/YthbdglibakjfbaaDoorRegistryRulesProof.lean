/- The statement 'RegistryRules': the given row is proved from the law's walk. It is proved for every input that the row speaks of. No further condition. -/
import Derived.Test.YthbdglibakjfbaaDoorWLaw
import Derived.Test.YthbdglibakjfbaaDoorRows
import Derived.Test.YthbdglibakjfbaaDoorChecked
import Derived.Test.YthbdglibakjfbaaDoorEngT
import Derived.Test.YthbdglibakjfbaaDoorCards
import Derived.Test.YthbdglibakjfbaaDoorTie
import Derived.Test.YthbdglibakjfbaaDoorLTw
import Derived.LaidMore
import Derived.Lay
import Derived.Stop.Joined
import Derived.SevenTiedAt
import Derived.ProofKit
import Derived.OpenShut
import Derived.ShutString
import Derived.ChangeOld
namespace Go.Proofs.YthbdglibakjfbaaDoor.registryRules
open Go.ChangeShapes Go.WideShapes Go.ChangeAt Go.RowKit Go.Shp Go.Eng
open Go.ChangeMaps (open_string shut_string)
set_option linter.unusedVariables false
set_option maxRecDepth 100000

theorem own : ownKnob Tryd.prog.godebug = none := by kernel_rfl
theorem laidOut : laidOutB Tryd.prog = true := by kernel_rfl

section
variable [Inhabited Lo]
theorem shp22 {D' : Nat} {ds : List D} (h : Dk Tryd.prog (D' + 1) 22 ds) : ∃ y : Int, ds = [.c (.int .u16 y)] ∧ (0 ≤ y ∧ y ≤ 65535) := by
  obtain ⟨x, rfl, hx⟩ := dk_int Tryd.underlying22 h
  exact ⟨x, rfl, bounds_u16 hx⟩

theorem shp9 {D' : Nat} {ds : List D} (h : Dk Tryd.prog (D' + 1) 9 ds) : ∃ y : ByteArray, ds = [.c (.string y)] ∧ y.size ≤ 140737488351232 := by
  obtain ⟨x, rfl, hx⟩ := dk_string Tryd.underlying9 h
  exact ⟨x, rfl, hx⟩

end

theorem door_met (os : Os) (args : Array Value) : laidMetH Tryd.prog Rows.registryRulesRow.laid ((World.laidAll Tryd.prog os Rows.registryRulesRow.laid).forCall (fun _ _ => 0) ⟨#[], args, []⟩).memory := by
  rw [MakeChecks.laidMetH_plain _ _ _ (by kernel_rfl)]
  exact laidMet_laidAll _ (by kernel_rfl) (by kernel_rfl)

set_option maxRecDepth 100000 in
theorem lifted (os : Os) (started : os.Started) (H : Type) (enc : TypeId × Value → H) :
    ReturnsInHanded {} Tryd.checked os 3 .any (fun w args => (Rows.registryRulesSpec.pre enc Tryd.prog Tryd.f3 [] false w args ∧ laidMetH Tryd.prog Rows.registryRulesRow.laid w) ∧ sizedMet enc Tryd.prog Tryd.f3 (OpenSpec.ofChange Rows.registryRulesSpec) false w args)
      (Rows.registryRulesSpec.post enc Tryd.prog Tryd.f3 false true false false) := by
  refine returnsInHanded_of_change_and (C := Tryd.checked) (X := fun w _ => laidMetH Tryd.prog Rows.registryRulesRow.laid w) (fun _ _ _ hh h => h.of_heap hh) own started (by kernel_rfl) Tryd.func3
    (ChangeSpec.witness_shaped (enc := enc) (C := Tryd.checked) (os := os) (X := fun w _ => laidMetH Tryd.prog Rows.registryRulesRow.laid w) false (World.laidAll Tryd.prog os Rows.registryRulesRow.laid) #[.int .u16 0, .string ByteArray.empty] 8 (World.laidAll_os _ _ _) (World.shaped_of_ZipB (by kernel_rfl) (by kernel_rfl)) (by kernel_rfl) (by kernel_rfl) (by kernel_rfl) (door_met os _)) ?_
  intro W base args ds gs before hval0 hW hcnd hsz0 hL _
  obtain ⟨l0, hl0⟩ := laid_lo hL
  letI : Inhabited Lo := ⟨l0⟩
  have htw : Tw W := by rw [← hl0]; exact Tw.self
  have hval : ∀ (j : Nat) t v, Tryd.f3.params[j]? = some t → args[j]? = some v → Value.okWide Tryd.prog W .any base t v := hval0
  have hsz : (DataW.weightsEach Tryd.prog (Tryd.f3.params.toList ++ Rows.registryRulesSpec.plain.varTypes Tryd.prog) (ds ++ gs)).all (· ≤ reachBytes) = true := hsz0
  have hW' := hW
  obtain ⟨p, q, hA0, hV, rfl, hfz, hnd⟩ := hW
  have hA : DataW.TrodAll enc Tryd.prog W 0 (fun _ => true) true Tryd.f3.params.toList args.toList ds p := hA0
  rw [Tryd.params3] at hA hval hsz
  obtain ⟨v0, vs0, d0, ds0, p0, q0, hargs, rfl, rfl, h0, r0⟩ := trodAll_cons hA
  obtain ⟨v1, vs1, d1, ds1, p1, q1, rfl, rfl, rfl, h1, r1⟩ := trodAll_cons r0
  obtain ⟨rfl, rfl, rfl⟩ := trodAll_nil r1
  obtain rfl : args = #[v0, v1] := by cases args; simp_all
  obtain ⟨rfl, rfl⟩ := trodVars_none hV
  have k0 := h0
  have lt0 : ∀ x ∈ p0, x.block < W.heap.size := by obtain ⟨m, hm⟩ := k0; exact DataW.trod_lt m _ _ _ hm
  have z0 := sees_arg (P := Tryd.prog) (w := W) hsz 0 (t := 22) rfl rfl h0 8
  obtain ⟨s0, hd0, hk0⟩ := data_of_sees 8 22 _ (by kernel_rfl) z0
  have u0 : v0.cells.toList = [v0] := by obtain ⟨q, hq⟩ := okWide_int Tryd.underlying22 (hval 0 22 v0 rfl rfl); rw [hq]; rfl
  rw [u0] at hd0
  clear u0
  obtain ⟨y0, rfl, hp0⟩ := shp22 (D' := 7) hk0
  have dr0 : DR (fun b => b < W.heap.size) W _ _ := DR.of1 hd0
  have k1 := h1
  have lt1 : ∀ x ∈ p1, x.block < W.heap.size := by obtain ⟨m, hm⟩ := k1; exact DataW.trod_lt m _ _ _ hm
  have z1 := sees_arg (P := Tryd.prog) (w := W) hsz 1 (t := 9) rfl rfl h1 8
  obtain ⟨s1, hd1, hk1⟩ := data_of_sees 8 9 _ (by kernel_rfl) z1
  have u1 : v1.cells.toList = [v1] := by obtain ⟨q, hq⟩ := okWide_string Tryd.underlying9 (hval 1 9 v1 rfl rfl); rw [hq]; rfl
  rw [u1] at hd1
  clear u1
  obtain ⟨y1, rfl, hp1⟩ := shp9 (D' := 7) hk1
  have dr1 : DR (fun b => b < W.heap.size) W _ _ := DR.of1 hd1
  clear hA0 hval0 hsz0 hsz hval
  refine (Giv.calls (by kernel_rfl) (registryRules_giv y0 hp0 y1 hp1) (w := W) (DRt.cons' dr0 (DRt.cons' dr1 DRt.nil')) htw).mono fun e W' ⟨he, bel⟩ => ?_
  subst he
  exact ⟨_, rfl, _, _, _, [], _, [], hW', trodAll_mk1 (shut_bool Tryd.underlying4 _), (trodAll_cons_mk (Below.trod laidOut (by kernel_rfl) (of_decide_eq_true (by kernel_rfl)) k0 bel lt0) (trodAll_cons_mk (Below.trod laidOut (by kernel_rfl) (of_decide_eq_true (by kernel_rfl)) k1 bel lt1) trodAll_mk0)), rfl, bel.frame _, fun h => by cases h⟩

theorem over : Rows.registryRulesRow.holds Tryd.pinned (OpenSpec.ofChange Rows.registryRulesSpec) :=
  OpenClaim.holds_of_wide 3 Tryd.f3 rfl rfl rfl rfl rfl rfl rfl ⟨rfl, rfl, rfl, rfl, rfl⟩ rfl rfl rfl rfl rfl (by kernel_rfl) Tryd.func3 (by kernel_rfl)
    (of_decide_eq_true (by kernel_rfl)) (by unfold Func.isWrapper; first | (rw [if_pos (by decide +kernel)]; kernel_rfl) | (rw [if_neg (by decide +kernel)]; exact ⟨rfl, rfl⟩))
    (fun os started H enc _ => lifted os started H enc)

theorem proved : Rows.RegistryRulesCardSaid :=
  Claim7.holds_tied_plain_at .later [] [.data, .data, .data, .data, .sentinel, .sentinel, .listed, .data, .pinned, .pinned, .pinned, .pinned, .pinned, .pinned] true (true, "58dbe7420afbae09ac8aef0474196280468081f673f95ef8789277a05cd12044") true
    over (fun _ h => by cases h) (by kernel_rfl) (fun _ h => by cases h) registryRules_row_tie rfl ⟨rfl, rfl⟩ (by kernel_rfl) rfl
    (fun f fn hf hfn => by
      obtain rfl : f = 3 := Option.some.inj ((show Tryd.prog.funcNamed "mezzotint/mezzotintlaw31.RegistryRules" = some 3 by kernel_rfl).symm.trans hf) |>.symm
      obtain rfl : fn = Tryd.f3 := (Option.some.inj (Tryd.func3.symm.trans hfn)).symm
      exact ⟨by kernel_rfl, fun j t ht => by
        rw [Tryd.params3] at ht
        have hm : t ∈ [22, 9] := by simpa using Array.mem_of_getElem? ht
        have hall : ([22, 9].all fun u => !Tryd.prog.wantsStandIn u) = true := by kernel_rfl
        exact (show Tryd.prog.wantsStandIn t = false by simpa using List.all_eq_true.1 hall t hm)⟩)
    (by kernel_rfl)
#print axioms proved
end Go.Proofs.YthbdglibakjfbaaDoor.registryRules

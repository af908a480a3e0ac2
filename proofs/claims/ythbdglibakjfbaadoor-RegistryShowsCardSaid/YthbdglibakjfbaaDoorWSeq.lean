/- What the function that strings.SplitSeq gives does, at a separator of one byte. No condition but what each says. -/
import Derived.Test.YthbdglibakjfbaaDoorWShelf
import Derived.Test.YthbdglibakjfbaaDoorWRg4
import Derived.RangeFuncCalls
import Derived.RangeFuncLeaves
import Derived.Shelf.Abstract
import Derived.WalkKit
import Derived.OwnWalkIn
import Derived.TacticsInMore
import Derived.LoopNIn
import Derived.LoopIn
set_option linter.unusedSimpArgs false
set_option linter.unusedVariables false
set_option maxRecDepth 8000
set_option maxHeartbeats 4000000
attribute [local go_sem] Go.Oper.semAt_some
set_option linter.unusedSectionVars false
namespace Go.Proofs.YthbdglibakjfbaaDoor
open Go.Eng Go.RowKit
variable [Inhabited Lo]
def szAt (w : World) (b : Nat) : Nat := match w.cell? ⟨b, 0, none⟩ with
  | some (.string s) => s.size
  | _ => 0
theorem szAt_of {w : World} {b : Nat} {s : ByteArray} (h : w.cell? ⟨b, 0, none⟩ = some (.string s)) : szAt w b = s.size := by
  unfold szAt; rw [h]
theorem seq_ok (c : UInt8) (N : Nat) (rest piece : Nat → ByteArray) (hN : 0 < N)
    (hi : ∀ k, k + 1 < N → Lib.indexByte (rest k).data.toList c = ((piece k).size : Int) ∧ (rest k).extract 0 (piece k).size = piece k ∧ (rest k).extract ((piece k).size + 1) (rest k).size = rest (k + 1) ∧ (piece k).size + 1 ≤ (rest k).size)
    (hl : Lib.indexByte (rest (N - 1)).data.toList c = -1 ∧ rest (N - 1) = piece (N - 1)) (hs : ∀ k, (rest k).size ≤ 100000) (hdec : ∀ k, k + 1 < N → (rest (k + 1)).size < (rest k).size) : SeqC Tryd.prog 47 ⟨#[c]⟩ N rest piece := by
  intro l b1 b2 b3 n0 J J2 hc1 hc2 hset hY0 W h0
  have hY : ∀ k W, k < N → J k W → YieldAt Fence.wide (7 - 1) Tryd.prog l #[.string (piece k)] W fun e W' => e = .returned (.bool true) ∧ J2 k W' := fun k W hk hj => by
    obtain ⟨fn, tmps, assign, body, hy, hR⟩ := hY0 k W hk hj
    exact ⟨fn, tmps, assign, body, hy, trivial, fun c cs _ => hR.2 c cs (room_wide _)⟩
  clear hY0
  suffices hcc : CallsIn Fence.wide 7 Tryd.prog 47 #[.func (.yield l) #[] #[], .pointer (some ⟨b1, 0, none⟩), .pointer (some ⟨b2, 0, none⟩), .pointer (some ⟨b3, 0, none⟩)] W fun e W' => (∃ v, e = .returned v) ∧ J2 (N - 1) W' from ⟨trivial, fun cs _ => hcc.2 cs (room_wide _)⟩
  obtain ⟨F, hF⟩ : ∃ F, F = Fence.wide := ⟨_, rfl⟩
  rw [← hF] at hY ⊢
  have hf49 : F.fn 49 := by rw [hF]; trivial
  have hf47 : F.fn 47 := by rw [hF]; trivial
  have hro : F.round = none := by rw [hF]; rfl
  have hidx := fun (s : ByteArray) (w : World) => (callsIn_wide (n := 7 - 1)).2 (Tryd.strings_Index_one s c w)
  rw [← hF] at hidx
  clear hF
  refine callsIn_of_wp Tryd.func47 rfl hf47 ?_ hro
  simp only [Tryd.ntmps47, List.size_toArray, List.length_cons, List.length_nil, Nat.reduceAdd, Nat.reduceSub, Array.replicate_succ, Array.replicate_zero, List.push_toArray, List.append_toArray, List.nil_append, List.cons_append]
  obtain ⟨k1, k2, k3⟩ := hc1 0 W hN h0
  gi_wp2
  gi_loopw [7] (fun p wr => ∃ k, k < N ∧ J k wr) (fun p wr => szAt wr b2)
  case atStart => exact ⟨0, hN, h0⟩
  case round =>
    clear k1 k2 k3
    obtain ⟨k, hk, hJ⟩ := hrel
    obtain ⟨k1, k2, k3⟩ := hc1 k wr hk hJ
    by_cases hlast : k + 1 < N
    · obtain ⟨i1, i2, i3, i4⟩ := hi k hlast
      obtain ⟨fn, tmps, assign, body, hy, hR⟩ := hY k wr hk hJ
      have hd := hdec k hlast
      have hsz := hs k
      obtain ⟨pz, hpz⟩ : ∃ pz, pz = (piece k).size := ⟨_, rfl⟩
      rw [← hpz] at i1 i2 i3 i4
      clear hpz
      gi_wp2_with (gi_at_call 49; refine (hidx (rest k) wr).mono ?_; rintro e w' ⟨rfl, rfl⟩; rw [i1])
      refine hR.mono ?_
      rintro e W3 ⟨rfl, hJ2⟩
      obtain ⟨m1, m2, m3, m4⟩ := hc2 k W3 hk hJ2
      have hst := hset k W3 hlast hJ2
      have hsz2 : (⟨#[c]⟩ : ByteArray).size = 1 := rfl
      have hm : szAt (W3.setCell ⟨b2, 0, none⟩ (.string (rest (k + 1)))) b2 = (rest (k + 1)).size := szAt_of (World.cell?_setCell_same' W3 ⟨b2, 0, none⟩ (.string (rest (k + 1))) (by rw [m2]; rfl))
      gi_wp2
      go_roundw
      case rel => exact ⟨k + 1, hlast, hst⟩
      case measure =>
        have hk2 := szAt_of k2
        rw [hk2, hm]
        exact hd
    · obtain rfl : k = N - 1 := by omega
      obtain ⟨fn, tmps, assign, body, hy, hR⟩ := hY _ wr hk hJ
      obtain ⟨i1, i2⟩ := hl
      rw [i2] at i1 k2
      have hc2' := hc2 (N - 1)
      clear hi hs hdec hset hY hc1 hc2 i2
      obtain ⟨R, hR2⟩ : ∃ R, R = piece (N - 1) := ⟨_, rfl⟩
      rw [← hR2] at i1 k2 hy
      clear hR2
      gi_wp2_with (gi_at_call 49; refine (hidx R wr).mono ?_; rintro e w' ⟨rfl, rfl⟩; rw [i1])
      refine hR.mono ?_
      rintro e W3 ⟨rfl, hJ2⟩
      gi_wp2
      go_end0
      exact ⟨⟨_, rfl⟩, hJ2⟩
end Go.Proofs.YthbdglibakjfbaaDoor

/- The fields of a text, as data. No condition but what each says. -/
import Derived.Test.YtihgplkfikpgbaaDoorWBook
import Derived.Test.YtihgplkfikpgbaaDoorWShelf
set_option linter.unusedSimpArgs false
set_option linter.unusedVariables false
set_option maxRecDepth 8000
set_option maxHeartbeats 4000000
namespace Go.Proofs.YtihgplkfikpgbaaDoor
open Go.Eng Go.RowKit
theorem drt_c {Z : Nat → Prop} {w : World} : ∀ {xs vs : List Value}, DRt Z w (xs.map D.c) vs → vs = xs
  | [], vs, h => by simpa only [List.map_nil, DRt] using h
  | x :: xs, vs, h => by
    simp only [List.map_cons, DRt] at h
    obtain ⟨y, ys, rfl, h1, h2⟩ := h
    unfold DR at h1
    rw [h1.1, drt_c h2]
def fldB (t : List Int) : List (List UInt8) := Lib.fields (strOfNums t).data.toList
theorem fields_giv (t : List Int) (hs : t.length < 4294967281) (hasc : ∀ (j : Nat) b, (strOfNums t).data.toList[j]? = some b → b.toNat < 128) (ws : List (List Int)) (hn : ws.length ≤ 1000) (hw : (fldB t).map (fun l => (Value.string ⟨l.toArray⟩)) = ws.map (fun l => Value.string (strOfNums (txt l)))) :
    Giv Tryd.prog 50 [.c (.string (strOfNums t))] (retV [.lst 1 (wsD ws)]) := by
  refine .inl ⟨by kernel_rfl, fun Z w vs hz ht hv => ?_⟩
  rw [drt_c (xs := [.string (strOfNums t)]) hv]
  refine (Tryd.strings_Fields (strOfNums t) w (by rw [str_size]; exact hs) hasc ht).mono fun e w' ⟨he, hw'⟩ => ?_
  have hlen : (fldB t).length = ws.length := by
    have := congrArg List.length hw
    simpa using this
  have he2 : e = .returned (.slice (some ⟨w.heap.size, 0, none⟩) ws.length ws.length) := by
    rw [he, ← hlen]; rfl
  have hw2 : w' = w.alloc (.cells (ws.map (fun l => Value.string (strOfNums (txt l)))).toArray 9) := by
    rw [hw', ← hw]; rfl
  clear he hw'
  subst he2 hw2
  refine ⟨_, fun b => Z b ∨ b = w.heap.size, rfl, ⟨fun b h => .inl h, fun b h => ?_, fun b h => ?_, (Below.refl _ w).alloc (Nat.le_refl _) _⟩, fun M => ?_⟩
  · rcases h with h | h
    · exact .inl h
    · exact .inr (Nat.le_of_eq h.symm)
  · rw [World.size_alloc]
    rcases h with h | h
    · have := hz b h; omega
    · omega
  · refine retV_AR (vs := [.slice (some ⟨w.heap.size, 0, none⟩) ws.length ws.length]) ?_
    unfold DRt
    refine ⟨_, _, rfl, ?_, by unfold DRt; rfl⟩
    have hl := wsD_len ws
    unfold DR
    rw [hl]
    refine ⟨_, _, rfl, Nat.le_refl _, Nat.le_trans hn (by decide), fun _ => ⟨w.heap.size, 0, rfl, .inr rfl, DRrow.of _ _ fun i hi => ?_⟩⟩
    rw [hl] at hi
    refine ⟨.string (strOfNums (txt (ws.getD i []))), ⟨rfl, fun j hj => ?_⟩, ?_⟩
    · obtain rfl : j = 0 := by omega
      rw [Nat.zero_add, Nat.mul_one, Nat.add_zero, World.cell?_alloc_new]
      simp [List.getElem?_eq_getElem hi, List.getD, Value.cells]
    · rw [wsD_get hi]
      unfold DR
      exact ⟨rfl, rfl⟩
end Go.Proofs.YtihgplkfikpgbaaDoor

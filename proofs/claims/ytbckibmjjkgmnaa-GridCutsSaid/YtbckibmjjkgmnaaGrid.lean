/- The contracts of the smaller functions on grids of whole numbers: which sizes may be, which grids are right, copies of grids. No condition. -/
import Derived.Test.YtbckibmjjkgmnaaRows
import Derived.Test.YtbckibmjjkgmnaaOwn
import Derived.WalkKit
import Derived.WalkLawsBesides
import Derived.BigQuiet
import Derived.Deep.QuietTactic
import Derived.Deep.RegionHeld3
import Derived.Deep.DrawnRows
import Derived.Lib.Hide
import Derived.Deep.OwnRows
namespace Go.Proofs.Ytbckibmjjkgmnaa
open Go.RowKit Go.Shp Go.Deep

attribute [local go_sem ↓] Go.wp_at_zero Go.wp_at_succ

/-- may a grid have a size -/
def fitsB (w h : Int) : Bool := decide (0 ≤ w ∧ 0 ≤ h ∧ w ≤ 4194304 ∧ h ≤ 4194304 ∧ w * h ≤ 4194304)
theorem fitsB_iff (w h : Int) : fitsB w h = true ↔ 0 ≤ w ∧ 0 ≤ h ∧ w ≤ 4194304 ∧ h ≤ 4194304 ∧ w * h ≤ 4194304 := by unfold fitsB; exact decide_eq_true_iff
theorem mul_bd (w h : Int) (h1 : 0 ≤ w) (h2 : 0 ≤ h) (h3 : w ≤ 4194304) (h4 : h ≤ 4194304) : 0 ≤ w * h ∧ w * h ≤ 17592186044416 := by
  refine ⟨Int.mul_nonneg h1 h2, ?_⟩
  have := Int.mul_le_mul h3 h4 h2 (by omega)
  omega

set_option maxHeartbeats 400000 in
theorem fits_any (W : World) (w h : Int) :
    Calls Try.prog 36 #[.int .i64 w, .int .i64 h] W fun e w' => e = .returned (.bool (fitsB w h)) ∧ W = w' := by
  by_cases h1 : 0 ≤ w
  · by_cases h2 : 0 ≤ h
    · by_cases h3 : w ≤ 4194304
      · by_cases h4 : h ≤ 4194304
        · obtain ⟨m1, m2⟩ := mul_bd w h h1 h2 h3 h4
          by_cases h5 : w * h ≤ 4194304
          · have hf := Lib.hid ((fitsB_iff w h).2 ⟨h1, h2, h3, h4, h5⟩)
            go_enter Try.func36, Try.ntmps36
            go_wp2
            go_ret
            exact ⟨by rw [hf.out]; rfl, rfl⟩
          · have hf : Hid (fitsB w h = false) := by unfold Hid fitsB; exact decide_eq_false (by omega)
            go_enter Try.func36, Try.ntmps36
            go_wp2
            go_ret
            exact ⟨by rw [hf.out]; rfl, rfl⟩
        · have hf : Hid (fitsB w h = false) := by unfold Hid fitsB; exact decide_eq_false (by omega)
          go_enter Try.func36, Try.ntmps36
          go_wp2
          go_ret
          exact ⟨by rw [hf.out]; rfl, rfl⟩
      · have hf : Hid (fitsB w h = false) := by unfold Hid fitsB; exact decide_eq_false (by omega)
        go_enter Try.func36, Try.ntmps36
        go_wp2
        go_ret
        exact ⟨by rw [hf.out]; rfl, rfl⟩
    · have hf : Hid (fitsB w h = false) := by unfold Hid fitsB; exact decide_eq_false (by omega)
      go_enter Try.func36, Try.ntmps36
      go_wp2
      go_ret
      exact ⟨by rw [hf.out]; rfl, rfl⟩
  · have hf : Hid (fitsB w h = false) := by unfold Hid fitsB; exact decide_eq_false (by omega)
    go_enter Try.func36, Try.ntmps36
    go_wp2
    go_ret
    exact ⟨by rw [hf.out]; rfl, rfl⟩

/-- has a grid as many cells as its size says -/
def rightB (w h : Int) (n : Nat) : Bool := fitsB w h && (n : Int) == w * h
set_option maxHeartbeats 400000 in
theorem right_any (W : World) (w h : Int) (a : Option Addr) (n c : Nat) (b : Bool) (_hn : n ≤ 9223372036854775807) (hb : rightB w h n = b) :
    Calls Try.prog 25 #[.agg #[.int .i64 w, .int .i64 h, .slice a n c]] W fun e w' => e = .returned (.bool b) ∧ Below W.heap.size W w' := by
  have hB := Lib.hid hb
  clear hb
  cases hf : fitsB w h with
  | false =>
    go_enter Try.func25, Try.ntmps25
    go_wp2_with (go_at_call 36; refine (fits_any _ _ _).mono ?_; rintro e w' ⟨rfl, rfl⟩)
    go_ret
    exact ⟨by rw [← hB.out]; simp [rightB, hf], (Below.refl _ _).alloc (Nat.le_refl _) _⟩
  | true =>
    obtain ⟨h1, h2, h3, h4, h5⟩ := (fitsB_iff w h).1 hf
    obtain ⟨m1, m2⟩ := mul_bd w h h1 h2 h3 h4
    go_enter Try.func25, Try.ntmps25
    go_wp2_with (go_at_call 36; refine (fits_any _ _ _).mono ?_; rintro e w' ⟨rfl, rfl⟩)
    go_ret
    exact ⟨by rw [← hB.out]; simp [rightB, hf], (Below.refl _ _).alloc (Nat.le_refl _) _⟩

theorem E22 : ElemOk Try.prog 22 3 (.int .i64 0) 1 8 := ⟨Try.underlying22, info_parts (by kernel_rfl), rfl, by decide⟩

set_option maxHeartbeats 1000000 in
theorem clone_any (W : World) (w h : Int) (zs : List Int) (a : Option Addr) (c : Nat) (hs : SlI W .i64 8 zs a c) :
    Calls Try.prog 19 #[.agg #[.int .i64 w, .int .i64 h, .slice a zs.length c]] W fun e w' =>
      ∃ v, e = .returned (.agg #[.int .i64 w, .int .i64 h, v]) ∧ OwI w' W.heap.size 3 .i64 zs v ∧ Below W.heap.size W w' := by
  have hr := hs.reach
  have hl63 := hs.len63
  go_enter Try.func19, Try.ntmps19
  go_wp2
  go_region_held3 (fun w' => w'.cell? ⟨W.heap.size, 0, none⟩ = some (.int .i64 w) ∧ w'.cell? ⟨W.heap.size, 1, none⟩ = some (.int .i64 h) ∧ w'.cell? ⟨W.heap.size, 2, none⟩ = some (.slice a zs.length c))
    (first | go_keep | (go_split_ands; refine ⟨?_, ?_, ?_⟩ <;> (rw [hc1 _ _ (by omega)]; go_keep)))
    ((refine step_append_sl (zs := []) E22 (by rfl) (.tmp 7) (.tmp 9) (by rfl) (W.heap.size + 2) (by rfl) (by rfl) rfl (OwI.lit _ _ _ _ [] (by simp) (by simp) (by decide) (by simp) rfl rfl).drew (((hs.alloc _).alloc _).alloc _).drew (N := zs.length) (by simp) (by omega) (by omega) (by simp) ?_; intro a1 c1 w1 hown1 hg1 hb1; simp only [List.nil_append] at hown1; clear hg1; obtain ⟨hc1, hf1⟩ := bcell hb1; have hz1 := hb1.size; simp at hz1))
  go_wp2
  refine bodyPost_ret (v := .agg #[.int .i64 w, .int .i64 h, .slice a1 zs.length c1]) (by simp [results, Try.results19, go_sem, hc1]) rfl ⟨_, rfl, ?_, ?_⟩
  · exact (((hown1.low (by simp) _).low (by simp) _).low (by simp) _).more (by omega)
  · exact (((((((((Below.refl _ _).alloc (Nat.le_refl _) _).alloc (by simp) _).alloc (by simp; omega) _).drew).trans (hb1.mono (by omega))).setCell (by simp) _).setCell (by simp) _).setCell (by simp) _)

theorem new_no (W : World) (w h : Int) (hf : fitsB w h = false) :
    Calls Try.prog 35 #[.int .i64 w, .int .i64 h] W fun e w' => e = .returned (.tuple #[.agg #[.int .i64 0, .int .i64 0, .slice none 0 0], .int .i64 1]) ∧ Below W.heap.size W w' := by
  go_enter Try.func35, Try.ntmps35
  go_wp2_with (go_at_call 36; refine (fits_any _ _ _).mono ?_; rintro e w' ⟨rfl, rfl⟩)
  exact bodyPost_ret (v := .tuple #[.agg #[.int .i64 0, .int .i64 0, .slice none 0 0], .int .i64 1]) (by simp [results, Try.results35, go_sem]) rfl ⟨rfl, (Below.refl _ _).alloc (Nat.le_refl _) _⟩
theorem new_yes (W : World) (w h : Int) (n : Nat) (hf : fitsB w h = true) (hn : w * h = (n : Int)) :
    Calls Try.prog 35 #[.int .i64 w, .int .i64 h] W fun e w' => ∃ g, e = .returned (.tuple #[.agg #[.int .i64 w, .int .i64 h, .slice (some ⟨g, 0, none⟩) n n], .int .i64 0]) ∧
      OwI w' W.heap.size 3 .i64 (List.replicate n 0) (.slice (some ⟨g, 0, none⟩) n n) ∧ Below W.heap.size W w' := by
  obtain ⟨h1, h2, h3, h4, h5⟩ := (fitsB_iff w h).1 hf
  have hn' : n ≤ 4194304 := by omega
  have hmk := run_make_row' (P := Try.prog) 22 3 (.int .i64 0) 8 Try.underlying22 (by kernel_rfl) rfl .i64 .i64 n (by omega) (by omega)
  go_enter Try.func35, Try.ntmps35
  go_wp2_with (go_at_call 36; refine (fits_any _ _ _).mono ?_; rintro e w' ⟨rfl, rfl⟩)
  refine bodyPost_ret (v := .tuple #[.agg #[.int .i64 w, .int .i64 h, .slice (some ⟨W.heap.size + 1, 0, none⟩) n n], .int .i64 0]) (by simp [results, Try.results35, go_sem]) rfl ⟨_, rfl, ?_, ?_⟩
  · exact OwI.lit _ _ _ _ (List.replicate n 0) (by simp) (by simp) (by simp [maxLen]; omega) (ok_replicate _ _) (madeCells_int _ _) (by simp)
  · exact ((Below.refl _ _).alloc (Nat.le_refl _) _).alloc (by simp) _
end Go.Proofs.Ytbckibmjjkgmnaa

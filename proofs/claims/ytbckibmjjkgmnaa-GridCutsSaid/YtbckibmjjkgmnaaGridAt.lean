/- The contracts of a grid's At, Row and Set: a cell, a row, a grid with another cell. No condition. -/
import Derived.Test.YtbckibmjjkgmnaaGrid
namespace Go.Proofs.Ytbckibmjjkgmnaa
open Go.RowKit Go.Shp Go.Deep
attribute [local go_sem ↓] Go.wp_at_zero Go.wp_at_succ

/-- is there a cell -/
def hasB (w h : Int) (n : Nat) (x y : Int) : Bool := rightB w h n && decide (0 ≤ x ∧ 0 ≤ y ∧ x < w ∧ y < h)
theorem hasB_iff (w h : Int) (n : Nat) (x y : Int) : hasB w h n x y = true ↔ rightB w h n = true ∧ 0 ≤ x ∧ 0 ≤ y ∧ x < w ∧ y < h := by unfold hasB; simp
theorem rightB_iff (w h : Int) (n : Nat) : rightB w h n = true ↔ (0 ≤ w ∧ 0 ≤ h ∧ w ≤ 4194304 ∧ h ≤ 4194304 ∧ w * h ≤ 4194304) ∧ (n : Int) = w * h := by
  unfold rightB; rw [Bool.and_eq_true, fitsB_iff]; simp
/-- a cell's place lies among the cells -/
theorem place_bd (w h x y : Int) (hx : 0 ≤ x) (hy : 0 ≤ y) (hxw : x < w) (hyh : y < h) : 0 ≤ y * w ∧ y * w + x < w * h ∧ y * w ≤ w * h := by
  have h1 : 0 ≤ y * w := Int.mul_nonneg hy (by omega)
  have h2 : (y + 1) * w ≤ h * w := Int.mul_le_mul_of_nonneg_right (by omega) (by omega)
  rw [Int.add_mul, Int.mul_comm h w] at h2
  omega

set_option maxHeartbeats 1000000 in
theorem at_no (W : World) (gw gh : Int) (a : Option Addr) (n c : Nat) (x y : Int) (hn : n ≤ 9223372036854775807) (hh : hasB gw gh n x y = false) :
    Calls Try.prog 20 #[.agg #[.int .i64 gw, .int .i64 gh, .slice a n c], .int .i64 x, .int .i64 y] W fun e w' => e = .returned (.tuple #[.int .i64 0, .bool false]) ∧ Below W.heap.size W w' := by
  cases hr' : rightB gw gh n with
  | false =>
    have hr := Lib.hid hr'
    clear hr' hh
    go_enter Try.func20, Try.ntmps20
    go_wp2_with (go_at_call 25; refine (right_any _ _ _ _ _ _ _ (by omega) hr.out).mono ?_; rintro e w1 ⟨rfl, hb1⟩; obtain ⟨hc1, hf1⟩ := bcell hb1)
    go_ret2
    exact ⟨rfl, by repeat (first | exact Below.refl _ _ | refine Below.drew ?_ | (refine Below.alloc ?_ (by first | (simp; done) | omega | (simp; omega)) _) | (refine Below.setCell ?_ (by first | (simp; done) | omega | (simp; omega)) _) | (refine Below.trans ?_ (hb1.mono (by first | (simp; done) | omega | (simp; omega)))))⟩
  | true =>
    have hh2 : ¬ (0 ≤ x ∧ 0 ≤ y ∧ x < gw ∧ y < gh) := by simpa [hasB, hr'] using hh
    have hr := Lib.hid hr'
    clear hr' hh
    by_cases t1 : x < 0
    · go_enter Try.func20, Try.ntmps20
      go_wp2_with (go_at_call 25; refine (right_any _ _ _ _ _ _ _ (by omega) hr.out).mono ?_; rintro e w1 ⟨rfl, hb1⟩; obtain ⟨hc1, hf1⟩ := bcell hb1)
      go_ret2
      exact ⟨rfl, by repeat (first | exact Below.refl _ _ | refine Below.drew ?_ | (refine Below.alloc ?_ (by first | (simp; done) | omega | (simp; omega)) _) | (refine Below.setCell ?_ (by first | (simp; done) | omega | (simp; omega)) _) | (refine Below.trans ?_ (hb1.mono (by first | (simp; done) | omega | (simp; omega)))))⟩
    · skip
      by_cases t2 : y < 0
      · go_enter Try.func20, Try.ntmps20
        go_wp2_with (go_at_call 25; refine (right_any _ _ _ _ _ _ _ (by omega) hr.out).mono ?_; rintro e w1 ⟨rfl, hb1⟩; obtain ⟨hc1, hf1⟩ := bcell hb1)
        go_ret2
        exact ⟨rfl, by repeat (first | exact Below.refl _ _ | refine Below.drew ?_ | (refine Below.alloc ?_ (by first | (simp; done) | omega | (simp; omega)) _) | (refine Below.setCell ?_ (by first | (simp; done) | omega | (simp; omega)) _) | (refine Below.trans ?_ (hb1.mono (by first | (simp; done) | omega | (simp; omega)))))⟩
      · skip
        by_cases t3 : gw ≤ x
        · go_enter Try.func20, Try.ntmps20
          go_wp2_with (go_at_call 25; refine (right_any _ _ _ _ _ _ _ (by omega) hr.out).mono ?_; rintro e w1 ⟨rfl, hb1⟩; obtain ⟨hc1, hf1⟩ := bcell hb1)
          go_ret2
          exact ⟨rfl, by repeat (first | exact Below.refl _ _ | refine Below.drew ?_ | (refine Below.alloc ?_ (by first | (simp; done) | omega | (simp; omega)) _) | (refine Below.setCell ?_ (by first | (simp; done) | omega | (simp; omega)) _) | (refine Below.trans ?_ (hb1.mono (by first | (simp; done) | omega | (simp; omega)))))⟩
        · skip
          have t4 : gh ≤ y := by omega
          clear hh2
          go_enter Try.func20, Try.ntmps20
          go_wp2_with (go_at_call 25; refine (right_any _ _ _ _ _ _ _ (by omega) hr.out).mono ?_; rintro e w1 ⟨rfl, hb1⟩; obtain ⟨hc1, hf1⟩ := bcell hb1)
          go_ret2
          exact ⟨rfl, by repeat (first | exact Below.refl _ _ | refine Below.drew ?_ | (refine Below.alloc ?_ (by first | (simp; done) | omega | (simp; omega)) _) | (refine Below.setCell ?_ (by first | (simp; done) | omega | (simp; omega)) _) | (refine Below.trans ?_ (hb1.mono (by first | (simp; done) | omega | (simp; omega)))))⟩

set_option maxHeartbeats 1000000 in
theorem at_yes (W : World) (gw gh : Int) (zs : List Int) (a : Option Addr) (c : Nat) (x y : Int) (j : Nat) (hs : SlI W .i64 8 zs a c) (hh : hasB gw gh zs.length x y = true) (hj : y * gw + x = (j : Int)) :
    Calls Try.prog 20 #[.agg #[.int .i64 gw, .int .i64 gh, .slice a zs.length c], .int .i64 x, .int .i64 y] W fun e w' => e = .returned (.tuple #[.int .i64 (zs.getD j 0), .bool true]) ∧ Below W.heap.size W w' := by
  obtain ⟨hr', g1, g2, g3, g4⟩ := (hasB_iff _ _ _ _ _).1 hh
  obtain ⟨⟨f1, f2, f3, f4, f5⟩, f6⟩ := (rightB_iff _ _ _).1 hr'
  obtain ⟨p1, p2, p3⟩ := place_bd gw gh x y g1 g2 g3 g4
  have hjn : j < zs.length := by omega
  have hl := hs.len63
  have hr := Lib.hid hr'
  have hp4 : y * gw ≤ 4194304 := by omega
  have hjn' : (j : Int) < (zs.length : Int) := by omega
  obtain ⟨b, off, rfl, hb, hcell⟩ := hs.cells (by omega)
  have hcj := hcell j hjn
  obtain ⟨z, hz⟩ : ∃ z, z = zs.getD j 0 := ⟨_, rfl⟩
  rw [← hz] at hcj
  have HZ := Lib.hid hz
  clear hz
  clear hr' hh f6 p2 p3 hcell hs
  go_enter Try.func20, Try.ntmps20
  go_wp2_with (go_at_call 25; refine (right_any _ _ _ _ _ _ _ (by omega) hr.out).mono ?_; rintro e w1 ⟨rfl, hb1⟩; obtain ⟨hc1, hf1⟩ := bcell hb1)
  go_ret2
  exact ⟨by rw [← HZ.out]; rfl, by repeat (first | exact Below.refl _ _ | refine Below.drew ?_ | (refine Below.alloc ?_ (by first | (simp; done) | omega | (simp; omega)) _) | (refine Below.setCell ?_ (by first | (simp; done) | omega | (simp; omega)) _) | (refine Below.trans ?_ (hb1.mono (by first | (simp; done) | omega | (simp; omega)))))⟩

set_option maxHeartbeats 1000000 in
theorem set_no (W : World) (gw gh : Int) (zs : List Int) (a : Option Addr) (c : Nat) (x y z : Int) (hs : SlI W .i64 8 zs a c) (hh : hasB gw gh zs.length x y = false) :
    Calls Try.prog 22 #[.agg #[.int .i64 gw, .int .i64 gh, .slice a zs.length c], .int .i64 x, .int .i64 y, .int .i64 z] W fun e w' =>
      ∃ v, e = .returned (.tuple #[.agg #[.int .i64 gw, .int .i64 gh, v], .int .i64 1]) ∧ OwI w' W.heap.size 3 .i64 (zs) v ∧ Below W.heap.size W w' := by
  have hl := hs.len63
  have HH := Lib.hid hh
  have HS := Lib.hid hs
  clear hh hs
  go_enter Try.func22, Try.ntmps22
  go_wp2_with fail
  go_at_call 20
  refine (at_no _ _ _ _ _ _ _ _ (by omega) HH.out).mono ?_
  rintro e w1 ⟨rfl, hb1⟩
  obtain ⟨hc1, hf1⟩ := bcell hb1
  have hz1_0 : W.heap.size < w1.heap.size := by have := hb1.size; (try simp at this); omega
  have hz1_1 : W.heap.size + 1 < w1.heap.size := by have := hb1.size; (try simp at this); omega
  have hs2 := Lib.hid (((HS.out.alloc _).alloc _).below hb1 (by simp))
  go_wp2_with fail
  go_at_call 19
  refine (clone_any _ _ _ _ _ _ hs2.out).mono ?_
  rintro e w2 ⟨v, rfl, ho, hb2⟩
  obtain ⟨hc2, hf2⟩ := bcell hb2
  have hz2_0 : W.heap.size < w2.heap.size := by have := hb2.size; (try simp at this); omega
  have hz2_1 : W.heap.size + 1 < w2.heap.size := by have := hb2.size; (try simp at this); omega
  obtain ⟨a2, c2, hv, _, _⟩ := ho.form
  rw [hv]
  go_wp2
  refine bodyPost_ret (v := .tuple #[.agg #[.int .i64 gw, .int .i64 gh, .slice a2 zs.length c2], .int .i64 1]) (by simp [results, Try.results22, go_sem, hz1_1, hc1, hc2]) rfl ⟨_, rfl, ?_, ?_⟩
  · rw [hv] at ho
    exact (((ho.low (by simp; omega) _).low (by simp; omega) _).low (by simp; omega) _).more (by omega)
  · repeat (first | exact Below.refl _ _ | refine Below.drew ?_ | (refine Below.alloc ?_ (by first | (simp; done) | omega | (simp; omega)) _) | (refine Below.setCell ?_ (by first | (simp; done) | omega | (simp; omega)) _) | (refine Below.trans ?_ (hb2.mono (by first | (simp; done) | omega | (simp; omega)))) | (refine Below.trans ?_ (hb1.mono (by first | (simp; done) | omega | (simp; omega)))))

set_option maxHeartbeats 1000000 in
theorem set_yes (W : World) (gw gh : Int) (zs : List Int) (a : Option Addr) (c : Nat) (x y z : Int) (j : Nat) (hzz : (Lit.int .i64 z).wf = true) (hs : SlI W .i64 8 zs a c) (hh : hasB gw gh zs.length x y = true) (hj : y * gw + x = (j : Int)) :
    Calls Try.prog 22 #[.agg #[.int .i64 gw, .int .i64 gh, .slice a zs.length c], .int .i64 x, .int .i64 y, .int .i64 z] W fun e w' =>
      ∃ v, e = .returned (.tuple #[.agg #[.int .i64 gw, .int .i64 gh, v], .int .i64 0]) ∧ OwI w' W.heap.size 3 .i64 (zs.set j z) v ∧ Below W.heap.size W w' := by
  obtain ⟨hr', g1, g2, g3, g4⟩ := (hasB_iff _ _ _ _ _).1 hh
  obtain ⟨⟨f1, f2, f3, f4, f5⟩, f6⟩ := (rightB_iff _ _ _).1 hr'
  obtain ⟨p1, p2, p3⟩ := place_bd gw gh x y g1 g2 g3 g4
  have hjn : j < zs.length := by omega
  have hl := hs.len63
  have hr := Lib.hid hr'
  have hp4 : y * gw ≤ 4194304 := by omega
  have hjn' : (j : Int) < (zs.length : Int) := by omega
  have HS := Lib.hid hs
  have HH := Lib.hid hh
  have hne : zs.length ≠ 0 := by omega
  clear hh hs hr' f6 p2 p3
  go_enter Try.func22, Try.ntmps22
  go_wp2_with fail
  go_at_call 20
  refine (at_yes _ _ _ _ _ _ _ _ j ((HS.out.alloc _).alloc _) HH.out (by omega)).mono ?_
  rintro e w1 ⟨rfl, hb1⟩
  obtain ⟨hc1, hf1⟩ := bcell hb1
  have hz1_0 : W.heap.size < w1.heap.size := by have := hb1.size; (try simp at this); omega
  have hz1_1 : W.heap.size + 1 < w1.heap.size := by have := hb1.size; (try simp at this); omega
  have hs2 := Lib.hid (((HS.out.alloc _).alloc _).below hb1 (by simp))
  go_wp2_with fail
  go_at_call 19
  refine (clone_any _ _ _ _ _ _ hs2.out).mono ?_
  rintro e w2 ⟨v, rfl, ho, hb2⟩
  obtain ⟨hc2, hf2⟩ := bcell hb2
  have hz2_0 : W.heap.size < w2.heap.size := by have := hb2.size; (try simp at this); omega
  have hz2_1 : W.heap.size + 1 < w2.heap.size := by have := hb2.size; (try simp at this); omega
  obtain ⟨a2, c2, hv, _, _⟩ := ho.form
  subst hv
  obtain ⟨g, hga, hgb, hgl, hgf, hgc⟩ := ho.at_ hne
  subst hga
  have hgf := hgf j
  have hgc := hgc j hjn
  obtain ⟨y0, hy0⟩ : ∃ y0, y0 = zs.getD j 0 := ⟨_, rfl⟩
  rw [← hy0] at hgc
  clear hy0
  go_wp2
  refine bodyPost_ret (v := .tuple #[.agg #[.int .i64 gw, .int .i64 gh, .slice (some ⟨g, 0, none⟩) zs.length c2], .int .i64 0]) (by simp [results, Try.results22, go_sem, hz1_1, hz2_1, hc1, hc2]) rfl ⟨_, rfl, ?_, ?_⟩
  · have h1 := ho.set j hzz
    have h2 := h1.low (p := ⟨W.heap.size + 1, 0, none⟩) (by omega) (.int .i64 gw)
    have h3 := h2.low (p := ⟨W.heap.size + 1, 1, none⟩) (by omega) (.int .i64 gh)
    have h4 := (h3.low (p := ⟨W.heap.size + 1, 2, none⟩) (by omega) (.slice (some ⟨g, 0, none⟩) zs.length c2)).alloc (.cells #[.int .i64 gw, .int .i64 gh, .slice (some ⟨g, 0, none⟩) zs.length c2] 28)
    exact h4.more (by omega)
  · repeat (first | exact Below.refl _ _ | refine Below.drew ?_ | (refine Below.alloc ?_ (by first | (simp; done) | omega | (simp; omega)) _) | (refine Below.setCell ?_ (by first | (simp; done) | omega | (simp; omega)) _) | (refine Below.trans ?_ (hb2.mono (by first | (simp; done) | omega | (simp; omega)))) | (refine Below.trans ?_ (hb1.mono (by first | (simp; done) | omega | (simp; omega)))))
end Go.Proofs.Ytbckibmjjkgmnaa

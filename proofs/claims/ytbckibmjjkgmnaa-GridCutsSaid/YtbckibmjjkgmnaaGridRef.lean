/- The contracts of the reference's small functions on grids, and of the comparison of lists. No condition. -/
import Derived.Test.YtbckibmjjkgmnaaGridAt
namespace Go.Proofs.Ytbckibmjjkgmnaa
open Go.RowKit Go.Shp Go.Deep
attribute [local go_sem ↓] Go.wp_at_zero Go.wp_at_succ

theorem take_snoc_eq (xs ys : List Int) (k : Nat) (hk : k < xs.length) (hk2 : k < ys.length) (h : xs.take k = ys.take k) (e : xs.getD k 0 = ys.getD k 0) : xs.take (k + 1) = ys.take (k + 1) := by
  rw [List.take_succ_eq_append_getElem hk, List.take_succ_eq_append_getElem hk2, h]
  simp only [List.getD, List.getElem?_eq_getElem hk, List.getElem?_eq_getElem hk2, Option.getD_some] at e
  rw [e]
theorem ne_of_getD (xs ys : List Int) (k : Nat) (e : xs.getD k 0 ≠ ys.getD k 0) : xs ≠ ys := fun h => e (by rw [h])
set_option maxHeartbeats 1000000 in
theorem same_any (W : World) (xs ys : List Int) (a b : Option Addr) (c d : Nat) (h1 : SlI W .i64 8 xs a c) (h2 : SlI W .i64 8 ys b d) (r : Bool) (hr : decide (xs = ys) = r) :
    Calls Try.prog 24 #[.slice a xs.length c, .slice b ys.length d] W fun e w' => e = .returned (.bool r) ∧ Below W.heap.size W w' := by
  have HR := Lib.hid hr
  clear hr
  have l1 := h1.len63
  have l2 := h2.len63
  by_cases hl : xs.length = ys.length
  · have hl' : (xs.length : Int) ≤ (ys.length : Int) := by omega
    have hl2 : (ys.length : Int) ≤ (xs.length : Int) := by omega
    have HL := Lib.hid hl
    have hb0 : ((xs.length : Int) == (ys.length : Int)) = true := by simp [hl]
    have hb1 : ((xs.length : Int) != (ys.length : Int)) = false := by simp [hl]
    clear hl
    go_enter Try.func24, Try.ntmps24
    go_wp2
    go_loopw [5] (fun i wr => ∃ k : Nat, k ≤ xs.length ∧ i = .int .i64 k ∧ Hid (xs.take k = ys.take k) ∧ Below W.heap.size W wr) (fun i _ => xs.length - (intOf i).toNat)
    case atStart => exact ⟨0, Nat.zero_le _, rfl, by simp [Hid], Below.refl _ _⟩
    case round =>
      obtain ⟨k, hk, rfl, HT, hbw⟩ := hrel
      by_cases hlt : k < xs.length
      · obtain ⟨b1, o1, rfl, q1, c1⟩ := h1.cells (by omega)
        obtain ⟨b2, o2, rfl, q2, c2⟩ := h2.cells (by omega)
        have e1 := (hbw.cell (p := ⟨b1, o1 + k, none⟩) q1).trans (c1 k hlt)
        have e2 := (hbw.cell (p := ⟨b2, o2 + k, none⟩) q2).trans (c2 k (by omega))
        obtain ⟨x, hx⟩ : ∃ x, x = xs.getD k 0 := ⟨_, rfl⟩
        obtain ⟨y, hy⟩ : ∃ y, y = ys.getD k 0 := ⟨_, rfl⟩
        rw [← hx] at e1
        rw [← hy] at e2
        have HX := Lib.hid hx
        have HY := Lib.hid hy
        have i0 : (0 : Int) ≤ (k : Int) := by omega
        have i1 : (k : Int) < (xs.length : Int) := by omega
        have i2 : (k : Int) < (ys.length : Int) := by omega
        clear hx hy c1 c2 h1 h2
        by_cases hxy : x = y
        · have hne : (x != y) = false := by simp [hxy]
          have HE := Lib.hid hxy
          clear hxy
          go_wp2
          go_quiet (fail)
          go_wp2
          go_roundw
          case rel => exact ⟨k + 1, by omega, by go_num, take_snoc_eq xs ys k hlt (by omega) HT.out (by rw [← HX.out, ← HY.out, HE.out]), below_drewN hbw _⟩
          case measure => simp [intOf]; omega
        · have hne : (x != y) = true := by simp [hxy]
          have HE := Lib.hid hxy
          clear hxy
          go_wp2
          go_quiet (fail)
          go_wp2
          go_ret
          exact ⟨by rw [← HR.out, decide_eq_false (ne_of_getD xs ys k (by rw [← HX.out, ← HY.out]; exact HE.out))]; rfl, below_drewN hbw _⟩
      · go_wp2
        go_ret
        have ht := HT.out
        have hl := HL.out
        rw [List.take_of_length_le (by omega), List.take_of_length_le (by omega)] at ht
        exact ⟨by rw [← HR.out, decide_eq_true ht]; rfl, hbw⟩
  · have hb1 : ((xs.length : Int) != (ys.length : Int)) = true := by simp; omega
    have hx : xs ≠ ys := fun h => hl (by rw [h])
    have HX := Lib.hid hx
    clear hx hl
    go_enter Try.func24, Try.ntmps24
    go_wp2
    go_ret
    exact ⟨by rw [← HR.out, decide_eq_false HX.out]; rfl, Below.refl _ _⟩

set_option maxHeartbeats 1000000 in
theorem can_any (W : World) (x y : Int) :
    Calls Try.prog 27 #[.int .i64 x, .int .i64 y] W fun e w' => e = .returned (.bool (fitsB x y)) ∧ W = w' := by
  by_cases h1 : x < 0
  · have hf : Hid (fitsB x y = false) := by unfold Hid fitsB; exact decide_eq_false (by omega)
    go_enter Try.func27, Try.ntmps27
    go_wp2
    go_ret
    exact ⟨by rw [hf.out]; rfl, rfl⟩
  · skip
    by_cases h2 : y < 0
    · have hf : Hid (fitsB x y = false) := by unfold Hid fitsB; exact decide_eq_false (by omega)
      go_enter Try.func27, Try.ntmps27
      go_wp2
      go_ret
      exact ⟨by rw [hf.out]; rfl, rfl⟩
    · skip
      by_cases h3 : 4194304 < x
      · have hf : Hid (fitsB x y = false) := by unfold Hid fitsB; exact decide_eq_false (by omega)
        go_enter Try.func27, Try.ntmps27
        go_wp2
        go_ret
        exact ⟨by rw [hf.out]; rfl, rfl⟩
      · skip
        by_cases h4 : 4194304 < y
        · have hf : Hid (fitsB x y = false) := by unfold Hid fitsB; exact decide_eq_false (by omega)
          go_enter Try.func27, Try.ntmps27
          go_wp2
          go_ret
          exact ⟨by rw [hf.out]; rfl, rfl⟩
        · skip
          obtain ⟨m1, m2⟩ := mul_bd x y (by omega) (by omega) (by omega) (by omega)
          by_cases h5 : x * y ≤ 4194304
          · have hf := Lib.hid ((fitsB_iff x y).2 ⟨by omega, by omega, by omega, by omega, h5⟩)
            go_enter Try.func27, Try.ntmps27
            go_wp2
            go_ret
            exact ⟨by rw [hf.out]; rfl, rfl⟩
          · have hf : Hid (fitsB x y = false) := by unfold Hid fitsB; exact decide_eq_false (by omega)
            go_enter Try.func27, Try.ntmps27
            go_wp2
            go_ret
            exact ⟨by rw [hf.out]; rfl, rfl⟩

set_option maxHeartbeats 400000 in
theorem rright_any (W : World) (gw gh : Int) (a : Option Addr) (n c : Nat) (b : Bool) (_hn : n ≤ 9223372036854775807) (hb : rightB gw gh n = b) :
    Calls Try.prog 18 #[.agg #[.int .i64 gw, .int .i64 gh, .slice a n c]] W fun e w' => e = .returned (.bool b) ∧ Below W.heap.size W w' := by
  have hB := Lib.hid hb
  clear hb
  cases hf : fitsB gw gh with
  | false =>
    go_enter Try.func18, Try.ntmps18
    go_wp2_with (go_at_call 27; refine (can_any _ _ _).mono ?_; rintro e w' ⟨rfl, rfl⟩)
    go_ret
    exact ⟨by rw [← hB.out]; simp [rightB, hf], (Below.refl _ _).alloc (Nat.le_refl _) _⟩
  | true =>
    obtain ⟨h1, h2, h3, h4, h5⟩ := (fitsB_iff gw gh).1 hf
    obtain ⟨m1, m2⟩ := mul_bd gw gh h1 h2 h3 h4
    go_enter Try.func18, Try.ntmps18
    go_wp2_with (go_at_call 27; refine (can_any _ _ _).mono ?_; rintro e w' ⟨rfl, rfl⟩)
    go_ret
    exact ⟨by rw [← hB.out]; simp [rightB, hf], (Below.refl _ _).alloc (Nat.le_refl _) _⟩

set_option maxHeartbeats 1000000 in
theorem has_any (W : World) (gw gh : Int) (a : Option Addr) (n c : Nat) (x y : Int) (r : Bool) (hn : n ≤ 9223372036854775807) (hh : hasB gw gh n x y = r) :
    Calls Try.prog 23 #[.agg #[.int .i64 gw, .int .i64 gh, .slice a n c], .int .i64 x, .int .i64 y] W fun e w' => e = .returned (.bool r) ∧ Below W.heap.size W w' := by
  have HB := Lib.hid hh
  clear hh
  cases hr' : rightB gw gh n with
  | false =>
    have HX : Hid (hasB gw gh n x y = false) := by unfold Hid hasB; rw [hr']; rfl
    have hr := Lib.hid hr'
    clear hr'
    go_enter Try.func23, Try.ntmps23
    go_wp2_with (go_at_call 18; refine (rright_any _ _ _ _ _ _ _ (by omega) hr.out).mono ?_; rintro e w1 ⟨rfl, hb1⟩; obtain ⟨hc1, hf1⟩ := bcell hb1)
    go_ret
    exact ⟨by rw [← HB.out, HX.out]; first | rfl | (simp; omega), by repeat (first | exact Below.refl _ _ | refine Below.drew ?_ | (refine Below.alloc ?_ (by first | (simp; done) | omega | (simp; omega)) _) | (refine Below.setCell ?_ (by first | (simp; done) | omega | (simp; omega)) _) | (refine Below.trans ?_ (hb1.mono (by first | (simp; done) | omega | (simp; omega)))))⟩
  | true =>
    have hr := Lib.hid hr'
    clear hr'
    by_cases t1 : x < 0
    · have HX : Hid (hasB gw gh n x y = false) := by unfold Hid hasB; rw [hr.out, Bool.true_and]; exact decide_eq_false (by omega)
      go_enter Try.func23, Try.ntmps23
      go_wp2_with (go_at_call 18; refine (rright_any _ _ _ _ _ _ _ (by omega) hr.out).mono ?_; rintro e w1 ⟨rfl, hb1⟩; obtain ⟨hc1, hf1⟩ := bcell hb1)
      go_ret
      exact ⟨by rw [← HB.out, HX.out]; first | rfl | (simp; omega), by repeat (first | exact Below.refl _ _ | refine Below.drew ?_ | (refine Below.alloc ?_ (by first | (simp; done) | omega | (simp; omega)) _) | (refine Below.setCell ?_ (by first | (simp; done) | omega | (simp; omega)) _) | (refine Below.trans ?_ (hb1.mono (by first | (simp; done) | omega | (simp; omega)))))⟩
    · skip
      by_cases t2 : y < 0
      · have HX : Hid (hasB gw gh n x y = false) := by unfold Hid hasB; rw [hr.out, Bool.true_and]; exact decide_eq_false (by omega)
        go_enter Try.func23, Try.ntmps23
        go_wp2_with (go_at_call 18; refine (rright_any _ _ _ _ _ _ _ (by omega) hr.out).mono ?_; rintro e w1 ⟨rfl, hb1⟩; obtain ⟨hc1, hf1⟩ := bcell hb1)
        go_ret
        exact ⟨by rw [← HB.out, HX.out]; first | rfl | (simp; omega), by repeat (first | exact Below.refl _ _ | refine Below.drew ?_ | (refine Below.alloc ?_ (by first | (simp; done) | omega | (simp; omega)) _) | (refine Below.setCell ?_ (by first | (simp; done) | omega | (simp; omega)) _) | (refine Below.trans ?_ (hb1.mono (by first | (simp; done) | omega | (simp; omega)))))⟩
      · skip
        by_cases t3 : gw ≤ x
        · have HX : Hid (hasB gw gh n x y = false) := by unfold Hid hasB; rw [hr.out, Bool.true_and]; exact decide_eq_false (by omega)
          go_enter Try.func23, Try.ntmps23
          go_wp2_with (go_at_call 18; refine (rright_any _ _ _ _ _ _ _ (by omega) hr.out).mono ?_; rintro e w1 ⟨rfl, hb1⟩; obtain ⟨hc1, hf1⟩ := bcell hb1)
          go_ret
          exact ⟨by rw [← HB.out, HX.out]; first | rfl | (simp; omega), by repeat (first | exact Below.refl _ _ | refine Below.drew ?_ | (refine Below.alloc ?_ (by first | (simp; done) | omega | (simp; omega)) _) | (refine Below.setCell ?_ (by first | (simp; done) | omega | (simp; omega)) _) | (refine Below.trans ?_ (hb1.mono (by first | (simp; done) | omega | (simp; omega)))))⟩
        · skip
          by_cases t4 : gh ≤ y
          · have HX : Hid (hasB gw gh n x y = false) := by unfold Hid hasB; rw [hr.out, Bool.true_and]; exact decide_eq_false (by omega)
            go_enter Try.func23, Try.ntmps23
            go_wp2_with (go_at_call 18; refine (rright_any _ _ _ _ _ _ _ (by omega) hr.out).mono ?_; rintro e w1 ⟨rfl, hb1⟩; obtain ⟨hc1, hf1⟩ := bcell hb1)
            go_ret
            exact ⟨by rw [← HB.out, HX.out]; first | rfl | (simp; omega), by repeat (first | exact Below.refl _ _ | refine Below.drew ?_ | (refine Below.alloc ?_ (by first | (simp; done) | omega | (simp; omega)) _) | (refine Below.setCell ?_ (by first | (simp; done) | omega | (simp; omega)) _) | (refine Below.trans ?_ (hb1.mono (by first | (simp; done) | omega | (simp; omega)))))⟩
          · skip
            have HX : Hid (hasB gw gh n x y = true) := by unfold Hid hasB; rw [hr.out, Bool.true_and]; exact decide_eq_true (by omega)
            go_enter Try.func23, Try.ntmps23
            go_wp2_with (go_at_call 18; refine (rright_any _ _ _ _ _ _ _ (by omega) hr.out).mono ?_; rintro e w1 ⟨rfl, hb1⟩; obtain ⟨hc1, hf1⟩ := bcell hb1)
            go_ret
            exact ⟨by rw [← HB.out, HX.out]; first | rfl | (simp; omega), by repeat (first | exact Below.refl _ _ | refine Below.drew ?_ | (refine Below.alloc ?_ (by first | (simp; done) | omega | (simp; omega)) _) | (refine Below.setCell ?_ (by first | (simp; done) | omega | (simp; omega)) _) | (refine Below.trans ?_ (hb1.mono (by first | (simp; done) | omega | (simp; omega)))))⟩

set_option maxHeartbeats 1000000 in
theorem like_any (W : World) (gw gh xw xh : Int) (xs ys : List Int) (a b : Option Addr) (c d : Nat) (h1 : SlI W .i64 8 xs a c) (h2 : SlI W .i64 8 ys b d) (r : Bool) (hr : (gw == xw && gh == xh && decide (xs = ys)) = r) :
    Calls Try.prog 13 #[.agg #[.int .i64 gw, .int .i64 gh, .slice a xs.length c], .agg #[.int .i64 xw, .int .i64 xh, .slice b ys.length d]] W fun e w' => e = .returned (.bool r) ∧ Below W.heap.size W w' := by
  have HB := Lib.hid hr
  have HS1 := Lib.hid h1
  have HS2 := Lib.hid h2
  clear hr h1 h2
  cases t1 : (gw == xw) with
  | false =>
    go_enter Try.func13, Try.ntmps13
    go_wp2_with (go_at_call 24; refine (same_any _ _ _ _ _ _ _ ((HS1.out.alloc _).alloc _) ((HS2.out.alloc _).alloc _) _ rfl).mono ?_; rintro e w1 ⟨rfl, hb1⟩)
    go_ret
    exact ⟨by rw [← HB.out]; simp [t1], by repeat (first | exact Below.refl _ _ | refine Below.drew ?_ | (refine Below.alloc ?_ (by first | (simp; done) | omega | (simp; omega)) _) | (refine Below.setCell ?_ (by first | (simp; done) | omega | (simp; omega)) _))⟩
  | true =>
    cases t2 : (gh == xh) with
    | false =>
      go_enter Try.func13, Try.ntmps13
      go_wp2_with (go_at_call 24; refine (same_any _ _ _ _ _ _ _ ((HS1.out.alloc _).alloc _) ((HS2.out.alloc _).alloc _) _ rfl).mono ?_; rintro e w1 ⟨rfl, hb1⟩)
      go_ret
      exact ⟨by rw [← HB.out]; simp [t1, t2], by repeat (first | exact Below.refl _ _ | refine Below.drew ?_ | (refine Below.alloc ?_ (by first | (simp; done) | omega | (simp; omega)) _) | (refine Below.setCell ?_ (by first | (simp; done) | omega | (simp; omega)) _))⟩
    | true =>
      go_enter Try.func13, Try.ntmps13
      go_wp2_with (go_at_call 24; refine (same_any _ _ _ _ _ _ _ ((HS1.out.alloc _).alloc _) ((HS2.out.alloc _).alloc _) _ rfl).mono ?_; rintro e w1 ⟨rfl, hb1⟩)
      go_ret
      exact ⟨by rw [← HB.out]; simp [t1, t2], by repeat (first | exact Below.refl _ _ | refine Below.drew ?_ | (refine Below.alloc ?_ (by first | (simp; done) | omega | (simp; omega)) _) | (refine Below.setCell ?_ (by first | (simp; done) | omega | (simp; omega)) _) | (refine Below.trans ?_ (hb1.mono (by first | (simp; done) | omega | (simp; omega)))))⟩
end Go.Proofs.Ytbckibmjjkgmnaa

/- The law's example, and the law GridCuts: any part of any grid. No condition. -/
import Derived.Test.YtbckibmjjkgmnaaGridOf
namespace Go.Proofs.Ytbckibmjjkgmnaa
open Go.RowKit Go.Shp Go.Deep
attribute [local go_sem ↓] Go.wp_at_zero Go.wp_at_succ

set_option maxHeartbeats 1000000 in
theorem lives_ok (W : World) : Calls Try.prog 10 #[] W fun e w' => e = .returned (.bool true) ∧ Below W.heap.size W w' := by
  have hs0 : SlI (W.alloc (.cells #[.int .i64 1, .int .i64 2, .int .i64 3, .int .i64 4] 3)) .i64 8 [1, 2, 3, 4] (some ⟨W.heap.size, 0, none⟩) 4 :=
    (OwI.lit W W.heap.size 3 .i64 [1, 2, 3, 4] rfl (Nat.le_refl _) (by decide) (by decide) rfl rfl).sl (by decide)
  have HS := Lib.hid hs0
  clear hs0
  have hcut : cutL 2 2 1 1 2 4 [1, 2, 3, 4] = [4, 4, 4, 4] := by decide
  have HC := Lib.hid hcut
  clear hcut
  go_enter Try.func10, Try.ntmps10
  go_wp2_with fail
  go_at_call 11
  refine (cut_yes _ _ _ _ _ _ _ [1, 2, 3, 4] _ _ 4 (HS.out.alloc _) (by decide) (by decide) (by decide)).mono ?_
  rintro e w1 ⟨v, rfl, ho, hb1⟩
  rw [HC.out] at ho
  obtain ⟨a1, c1, hv, _, _⟩ := ho.form
  subst hv
  have hb1s := hb1.size
  simp at hb1s
  have hS1 := Lib.hid (ho.sl (bytes := 8) (by decide))
  have KG : Blk w1 (W.heap.size + 1) 28 #[.int .i64 2, .int .i64 2, .slice (some ⟨W.heap.size, 0, none⟩) 4 4] := (Blk.new _ _ _ (by simp)).below hb1 (by simp)
  have kg0 : w1.cell? ⟨W.heap.size + 1, 0, none⟩ = some (.int .i64 2) := KG.at_ 0 rfl
  have kg1 : w1.cell? ⟨W.heap.size + 1, 1, none⟩ = some (.int .i64 2) := KG.at_ 1 rfl
  have kg2 : w1.cell? ⟨W.heap.size + 1, 2, none⟩ = some (.slice (some ⟨W.heap.size, 0, none⟩) 4 4) := KG.at_ 2 rfl
  have hlt : W.heap.size + 1 < w1.heap.size := by omega
  go_wp2_with fail
  go_at_call 25
  refine (right_any _ _ _ _ _ _ true (by omega) (by decide)).mono ?_
  rintro e w2 ⟨rfl, hb2⟩
  have KO : Blk w2 w1.heap.size 28 #[.int .i64 2, .int .i64 2, .slice a1 4 c1] := (Blk.new _ _ _ rfl).below hb2 (by simp)
  have ko2 : w2.cell? ⟨w1.heap.size, 2, none⟩ = some (.slice a1 4 c1) := KO.at_ 2 rfl
  have hS2 := Lib.hid ((hS1.out.alloc (.cells #[.int .i64 2, .int .i64 2, .slice a1 4 c1] 28)).below hb2 (by simp))
  have hS3 : SlI (w2.alloc (.cells #[.int .i64 4, .int .i64 4, .int .i64 4, .int .i64 4] 3)) .i64 8 [4, 4, 4, 4] (some ⟨w2.heap.size, 0, none⟩) 4 :=
    (OwI.lit w2 w2.heap.size 3 .i64 [4, 4, 4, 4] rfl (Nat.le_refl _) (by decide) (by decide) rfl rfl).sl (by decide)
  have HS3 := Lib.hid hS3
  clear hS3
  go_wp2_with fail
  go_at_call 24
  refine (same_any _ [4, 4, 4, 4] [4, 4, 4, 4] _ _ _ _ (hS2.out.alloc _) HS3.out true (by decide)).mono ?_
  rintro e w3 ⟨rfl, hb3⟩
  go_wp2
  go_ret
  have z2 := hb2.size
  have z3 := hb3.size
  simp at z2 z3
  exact ⟨rfl, by repeat (first | exact Below.refl _ _ | refine Below.drew ?_ | refine below_drewN ?_ _ | (refine Below.alloc ?_ (by first | (simp; done) | omega | (simp; omega)) _) | (refine Below.setCell ?_ (by first | (simp; done) | omega | (simp; omega)) _) | (refine Below.trans ?_ (hb3.mono (by first | (simp; done) | omega | (simp; omega)))) | (refine Below.trans ?_ (hb2.mono (by first | (simp; done) | omega | (simp; omega)))) | (refine Below.trans ?_ (hb1.mono (by first | (simp; done) | omega | (simp; omega)))))⟩

set_option maxHeartbeats 16000000 in
set_option maxRecDepth 100000 in
theorem cuts_any (W : World) (sw sh : Int) (zs : List Int) (a : Option Addr) (c : Nat) (fill : Bool) (X Y rw rh : Int) (hs : SlI W .i64 8 zs a c) (hsw : -9223372036854775808 ≤ sw ∧ sw ≤ 9223372036854775807) (hsh : -9223372036854775808 ≤ sh ∧ sh ≤ 9223372036854775807) :
    Calls Try.prog 3 #[.agg #[.int .i64 sw, .int .i64 sh, .slice a zs.length c, .bool fill], .agg #[.int .i64 X, .int .i64 Y, .int .i64 rw, .int .i64 rh]] W fun e w' => e = .returned (.bool true) ∧ Below W.heap.size W w' := by
  go_enter Try.func3, Try.ntmps3
  go_wp2_with fail
  go_at_call 9
  refine (of_any _ _ _ _ _ _ _ ((hs.alloc _).alloc _) hsw hsh).mono ?_
  rintro e w1 ⟨gw, gh, l, a1, a2, c1, c2, ok, rfl, s1, s2, hok, bw, bh, hb1⟩
  have k0 : Blk w1 (W.heap.size) 24 #[.int .i64 sw, .int .i64 sh, .slice a zs.length c, .bool fill] := (((Blk.new _ _ _ (by first | rfl | simp)).alloc _)).below hb1 (by first | omega | (simp; done) | (simp; omega))
  have k1 : Blk w1 (W.heap.size + 1) 26 #[.int .i64 X, .int .i64 Y, .int .i64 rw, .int .i64 rh] := ((Blk.new _ _ _ (by first | rfl | simp))).below hb1 (by first | omega | (simp; done) | (simp; omega))
  have hB1 : Below W.heap.size W w1 := ((((Below.refl W.heap.size W).alloc (by first | omega | (simp; done) | (simp; omega)) _).alloc (by first | omega | (simp; done) | (simp; omega)) _)).trans (hb1.mono (by first | omega | (simp; done) | (simp; omega)))
  have z1 := hb1.size
  try simp at z1
  have k0_0 : w1.cell? ⟨W.heap.size, 0, none⟩ = some (.int .i64 sw) := k0.at_ 0 rfl
  have k0_1 : w1.cell? ⟨W.heap.size, 1, none⟩ = some (.int .i64 sh) := k0.at_ 1 rfl
  have k0_2 : w1.cell? ⟨W.heap.size, 2, none⟩ = some (.slice a zs.length c) := k0.at_ 2 rfl
  have k0_3 : w1.cell? ⟨W.heap.size, 3, none⟩ = some (.bool fill) := k0.at_ 3 rfl
  have k0_z : W.heap.size < w1.heap.size := k0.lt
  have k1_0 : w1.cell? ⟨W.heap.size + 1, 0, none⟩ = some (.int .i64 X) := k1.at_ 0 rfl
  have k1_1 : w1.cell? ⟨W.heap.size + 1, 1, none⟩ = some (.int .i64 Y) := k1.at_ 1 rfl
  have k1_2 : w1.cell? ⟨W.heap.size + 1, 2, none⟩ = some (.int .i64 rw) := k1.at_ 2 rfl
  have k1_3 : w1.cell? ⟨W.heap.size + 1, 3, none⟩ = some (.int .i64 rh) := k1.at_ 3 rfl
  have k1_z : W.heap.size + 1 < w1.heap.size := k1.lt
  have HOK := Lib.hid hok
  clear hok
  have hlen := s1.len63
  cases ok with
  | false =>
    go_wp2_with fail
    go_at_call 10
    refine (lives_ok _).mono ?_
    rintro e w2 ⟨rfl, hb2⟩
    replace k0 : Blk w2 (W.heap.size) 24 #[.int .i64 sw, .int .i64 sh, .slice a zs.length c, .bool fill] := (((k0.alloc _).alloc _)).below hb2 (by first | omega | (simp; done) | (simp; omega))
    replace k1 : Blk w2 (W.heap.size + 1) 26 #[.int .i64 X, .int .i64 Y, .int .i64 rw, .int .i64 rh] := (((k1.alloc _).alloc _)).below hb2 (by first | omega | (simp; done) | (simp; omega))
    have k2 : Blk w2 (w1.heap.size) 28 #[.int .i64 gw, .int .i64 gh, .slice a1 l.length c1] := (((Blk.new _ _ _ (by first | rfl | simp)).alloc _)).below hb2 (by first | omega | (simp; done) | (simp; omega))
    have k3 : Blk w2 (w1.heap.size + 1) 30 #[.int .i64 gw, .int .i64 gh, .slice a2 l.length c2] := ((Blk.new _ _ _ (by first | rfl | simp))).below hb2 (by first | omega | (simp; done) | (simp; omega))
    replace s1 : SlI w2 .i64 8 l a1 c1 := (((s1.alloc _).alloc _)).below hb2 (by first | omega | (simp; done) | (simp; omega))
    replace s2 : SlI w2 .i64 8 l a2 c2 := (((s2.alloc _).alloc _)).below hb2 (by first | omega | (simp; done) | (simp; omega))
    have hB2 : Below W.heap.size W w2 := (((hB1.alloc (by first | omega | (simp; done) | (simp; omega)) _).alloc (by first | omega | (simp; done) | (simp; omega)) _)).trans (hb2.mono (by first | omega | (simp; done) | (simp; omega)))
    clear hB1
    have z2 := hb2.size
    try simp at z2
    clear k0_0 k0_1 k0_2 k0_3 k0_z k1_0 k1_1 k1_2 k1_3 k1_z
    have k0_0 : w2.cell? ⟨W.heap.size, 0, none⟩ = some (.int .i64 sw) := k0.at_ 0 rfl
    have k0_1 : w2.cell? ⟨W.heap.size, 1, none⟩ = some (.int .i64 sh) := k0.at_ 1 rfl
    have k0_2 : w2.cell? ⟨W.heap.size, 2, none⟩ = some (.slice a zs.length c) := k0.at_ 2 rfl
    have k0_3 : w2.cell? ⟨W.heap.size, 3, none⟩ = some (.bool fill) := k0.at_ 3 rfl
    have k0_z : W.heap.size < w2.heap.size := k0.lt
    have k1_0 : w2.cell? ⟨W.heap.size + 1, 0, none⟩ = some (.int .i64 X) := k1.at_ 0 rfl
    have k1_1 : w2.cell? ⟨W.heap.size + 1, 1, none⟩ = some (.int .i64 Y) := k1.at_ 1 rfl
    have k1_2 : w2.cell? ⟨W.heap.size + 1, 2, none⟩ = some (.int .i64 rw) := k1.at_ 2 rfl
    have k1_3 : w2.cell? ⟨W.heap.size + 1, 3, none⟩ = some (.int .i64 rh) := k1.at_ 3 rfl
    have k1_z : W.heap.size + 1 < w2.heap.size := k1.lt
    have k2_0 : w2.cell? ⟨w1.heap.size, 0, none⟩ = some (.int .i64 gw) := k2.at_ 0 rfl
    have k2_1 : w2.cell? ⟨w1.heap.size, 1, none⟩ = some (.int .i64 gh) := k2.at_ 1 rfl
    have k2_2 : w2.cell? ⟨w1.heap.size, 2, none⟩ = some (.slice a1 l.length c1) := k2.at_ 2 rfl
    have k2_z : w1.heap.size < w2.heap.size := k2.lt
    have k3_0 : w2.cell? ⟨w1.heap.size + 1, 0, none⟩ = some (.int .i64 gw) := k3.at_ 0 rfl
    have k3_1 : w2.cell? ⟨w1.heap.size + 1, 1, none⟩ = some (.int .i64 gh) := k3.at_ 1 rfl
    have k3_2 : w2.cell? ⟨w1.heap.size + 1, 2, none⟩ = some (.slice a2 l.length c2) := k3.at_ 2 rfl
    have k3_z : w1.heap.size + 1 < w2.heap.size := k3.lt
    go_wp2_with fail
    go_at_call 10
    refine (lives_ok _).mono ?_
    rintro e w3 ⟨rfl, hb3⟩
    replace k0 : Blk w3 (W.heap.size) 24 #[.int .i64 sw, .int .i64 sh, .slice a zs.length c, .bool fill] := (k0).below hb3 (by first | omega | (simp; done) | (simp; omega))
    replace k1 : Blk w3 (W.heap.size + 1) 26 #[.int .i64 X, .int .i64 Y, .int .i64 rw, .int .i64 rh] := (k1).below hb3 (by first | omega | (simp; done) | (simp; omega))
    replace k2 : Blk w3 (w1.heap.size) 28 #[.int .i64 gw, .int .i64 gh, .slice a1 l.length c1] := (k2).below hb3 (by first | omega | (simp; done) | (simp; omega))
    replace k3 : Blk w3 (w1.heap.size + 1) 30 #[.int .i64 gw, .int .i64 gh, .slice a2 l.length c2] := (k3).below hb3 (by first | omega | (simp; done) | (simp; omega))
    replace s1 : SlI w3 .i64 8 l a1 c1 := (s1).below hb3 (by first | omega | (simp; done) | (simp; omega))
    replace s2 : SlI w3 .i64 8 l a2 c2 := (s2).below hb3 (by first | omega | (simp; done) | (simp; omega))
    have hB3 : Below W.heap.size W w3 := (hB2).trans (hb3.mono (by first | omega | (simp; done) | (simp; omega)))
    clear hB2
    have z3 := hb3.size
    try simp at z3
    clear k0_0 k0_1 k0_2 k0_3 k0_z k1_0 k1_1 k1_2 k1_3 k1_z k2_0 k2_1 k2_2 k2_z k3_0 k3_1 k3_2 k3_z
    have k0_0 : w3.cell? ⟨W.heap.size, 0, none⟩ = some (.int .i64 sw) := k0.at_ 0 rfl
    have k0_1 : w3.cell? ⟨W.heap.size, 1, none⟩ = some (.int .i64 sh) := k0.at_ 1 rfl
    have k0_2 : w3.cell? ⟨W.heap.size, 2, none⟩ = some (.slice a zs.length c) := k0.at_ 2 rfl
    have k0_3 : w3.cell? ⟨W.heap.size, 3, none⟩ = some (.bool fill) := k0.at_ 3 rfl
    have k0_z : W.heap.size < w3.heap.size := k0.lt
    have k1_0 : w3.cell? ⟨W.heap.size + 1, 0, none⟩ = some (.int .i64 X) := k1.at_ 0 rfl
    have k1_1 : w3.cell? ⟨W.heap.size + 1, 1, none⟩ = some (.int .i64 Y) := k1.at_ 1 rfl
    have k1_2 : w3.cell? ⟨W.heap.size + 1, 2, none⟩ = some (.int .i64 rw) := k1.at_ 2 rfl
    have k1_3 : w3.cell? ⟨W.heap.size + 1, 3, none⟩ = some (.int .i64 rh) := k1.at_ 3 rfl
    have k1_z : W.heap.size + 1 < w3.heap.size := k1.lt
    have k2_0 : w3.cell? ⟨w1.heap.size, 0, none⟩ = some (.int .i64 gw) := k2.at_ 0 rfl
    have k2_1 : w3.cell? ⟨w1.heap.size, 1, none⟩ = some (.int .i64 gh) := k2.at_ 1 rfl
    have k2_2 : w3.cell? ⟨w1.heap.size, 2, none⟩ = some (.slice a1 l.length c1) := k2.at_ 2 rfl
    have k2_z : w1.heap.size < w3.heap.size := k2.lt
    have k3_0 : w3.cell? ⟨w1.heap.size + 1, 0, none⟩ = some (.int .i64 gw) := k3.at_ 0 rfl
    have k3_1 : w3.cell? ⟨w1.heap.size + 1, 1, none⟩ = some (.int .i64 gh) := k3.at_ 1 rfl
    have k3_2 : w3.cell? ⟨w1.heap.size + 1, 2, none⟩ = some (.slice a2 l.length c2) := k3.at_ 2 rfl
    have k3_z : w1.heap.size + 1 < w3.heap.size := k3.lt
    go_wp2
    go_ret
    exact ⟨rfl, hB3⟩
  | true =>
    by_cases t1 : 100 < rw ∧ rw ≤ 4194304
    · obtain ⟨t1, t1'⟩ := t1
      go_wp2_with fail
      go_at_call 10
      refine (lives_ok _).mono ?_
      rintro e w2 ⟨rfl, hb2⟩
      replace k0 : Blk w2 (W.heap.size) 24 #[.int .i64 sw, .int .i64 sh, .slice a zs.length c, .bool fill] := (((k0.alloc _).alloc _)).below hb2 (by first | omega | (simp; done) | (simp; omega))
      replace k1 : Blk w2 (W.heap.size + 1) 26 #[.int .i64 X, .int .i64 Y, .int .i64 rw, .int .i64 rh] := (((k1.alloc _).alloc _)).below hb2 (by first | omega | (simp; done) | (simp; omega))
      have k2 : Blk w2 (w1.heap.size) 28 #[.int .i64 gw, .int .i64 gh, .slice a1 l.length c1] := (((Blk.new _ _ _ (by first | rfl | simp)).alloc _)).below hb2 (by first | omega | (simp; done) | (simp; omega))
      have k3 : Blk w2 (w1.heap.size + 1) 30 #[.int .i64 gw, .int .i64 gh, .slice a2 l.length c2] := ((Blk.new _ _ _ (by first | rfl | simp))).below hb2 (by first | omega | (simp; done) | (simp; omega))
      replace s1 : SlI w2 .i64 8 l a1 c1 := (((s1.alloc _).alloc _)).below hb2 (by first | omega | (simp; done) | (simp; omega))
      replace s2 : SlI w2 .i64 8 l a2 c2 := (((s2.alloc _).alloc _)).below hb2 (by first | omega | (simp; done) | (simp; omega))
      have hB2 : Below W.heap.size W w2 := (((hB1.alloc (by first | omega | (simp; done) | (simp; omega)) _).alloc (by first | omega | (simp; done) | (simp; omega)) _)).trans (hb2.mono (by first | omega | (simp; done) | (simp; omega)))
      clear hB1
      have z2 := hb2.size
      try simp at z2
      clear k0_0 k0_1 k0_2 k0_3 k0_z k1_0 k1_1 k1_2 k1_3 k1_z
      have k0_0 : w2.cell? ⟨W.heap.size, 0, none⟩ = some (.int .i64 sw) := k0.at_ 0 rfl
      have k0_1 : w2.cell? ⟨W.heap.size, 1, none⟩ = some (.int .i64 sh) := k0.at_ 1 rfl
      have k0_2 : w2.cell? ⟨W.heap.size, 2, none⟩ = some (.slice a zs.length c) := k0.at_ 2 rfl
      have k0_3 : w2.cell? ⟨W.heap.size, 3, none⟩ = some (.bool fill) := k0.at_ 3 rfl
      have k0_z : W.heap.size < w2.heap.size := k0.lt
      have k1_0 : w2.cell? ⟨W.heap.size + 1, 0, none⟩ = some (.int .i64 X) := k1.at_ 0 rfl
      have k1_1 : w2.cell? ⟨W.heap.size + 1, 1, none⟩ = some (.int .i64 Y) := k1.at_ 1 rfl
      have k1_2 : w2.cell? ⟨W.heap.size + 1, 2, none⟩ = some (.int .i64 rw) := k1.at_ 2 rfl
      have k1_3 : w2.cell? ⟨W.heap.size + 1, 3, none⟩ = some (.int .i64 rh) := k1.at_ 3 rfl
      have k1_z : W.heap.size + 1 < w2.heap.size := k1.lt
      have k2_0 : w2.cell? ⟨w1.heap.size, 0, none⟩ = some (.int .i64 gw) := k2.at_ 0 rfl
      have k2_1 : w2.cell? ⟨w1.heap.size, 1, none⟩ = some (.int .i64 gh) := k2.at_ 1 rfl
      have k2_2 : w2.cell? ⟨w1.heap.size, 2, none⟩ = some (.slice a1 l.length c1) := k2.at_ 2 rfl
      have k2_z : w1.heap.size < w2.heap.size := k2.lt
      have k3_0 : w2.cell? ⟨w1.heap.size + 1, 0, none⟩ = some (.int .i64 gw) := k3.at_ 0 rfl
      have k3_1 : w2.cell? ⟨w1.heap.size + 1, 1, none⟩ = some (.int .i64 gh) := k3.at_ 1 rfl
      have k3_2 : w2.cell? ⟨w1.heap.size + 1, 2, none⟩ = some (.slice a2 l.length c2) := k3.at_ 2 rfl
      have k3_z : w1.heap.size + 1 < w2.heap.size := k3.lt
      go_wp2_with fail
      go_at_call 10
      refine (lives_ok _).mono ?_
      rintro e w3 ⟨rfl, hb3⟩
      replace k0 : Blk w3 (W.heap.size) 24 #[.int .i64 sw, .int .i64 sh, .slice a zs.length c, .bool fill] := (k0).below hb3 (by first | omega | (simp; done) | (simp; omega))
      replace k1 : Blk w3 (W.heap.size + 1) 26 #[.int .i64 X, .int .i64 Y, .int .i64 rw, .int .i64 rh] := (k1).below hb3 (by first | omega | (simp; done) | (simp; omega))
      replace k2 : Blk w3 (w1.heap.size) 28 #[.int .i64 gw, .int .i64 gh, .slice a1 l.length c1] := (k2).below hb3 (by first | omega | (simp; done) | (simp; omega))
      replace k3 : Blk w3 (w1.heap.size + 1) 30 #[.int .i64 gw, .int .i64 gh, .slice a2 l.length c2] := (k3).below hb3 (by first | omega | (simp; done) | (simp; omega))
      replace s1 : SlI w3 .i64 8 l a1 c1 := (s1).below hb3 (by first | omega | (simp; done) | (simp; omega))
      replace s2 : SlI w3 .i64 8 l a2 c2 := (s2).below hb3 (by first | omega | (simp; done) | (simp; omega))
      have hB3 : Below W.heap.size W w3 := (hB2).trans (hb3.mono (by first | omega | (simp; done) | (simp; omega)))
      clear hB2
      have z3 := hb3.size
      try simp at z3
      clear k0_0 k0_1 k0_2 k0_3 k0_z k1_0 k1_1 k1_2 k1_3 k1_z k2_0 k2_1 k2_2 k2_z k3_0 k3_1 k3_2 k3_z
      have k0_0 : w3.cell? ⟨W.heap.size, 0, none⟩ = some (.int .i64 sw) := k0.at_ 0 rfl
      have k0_1 : w3.cell? ⟨W.heap.size, 1, none⟩ = some (.int .i64 sh) := k0.at_ 1 rfl
      have k0_2 : w3.cell? ⟨W.heap.size, 2, none⟩ = some (.slice a zs.length c) := k0.at_ 2 rfl
      have k0_3 : w3.cell? ⟨W.heap.size, 3, none⟩ = some (.bool fill) := k0.at_ 3 rfl
      have k0_z : W.heap.size < w3.heap.size := k0.lt
      have k1_0 : w3.cell? ⟨W.heap.size + 1, 0, none⟩ = some (.int .i64 X) := k1.at_ 0 rfl
      have k1_1 : w3.cell? ⟨W.heap.size + 1, 1, none⟩ = some (.int .i64 Y) := k1.at_ 1 rfl
      have k1_2 : w3.cell? ⟨W.heap.size + 1, 2, none⟩ = some (.int .i64 rw) := k1.at_ 2 rfl
      have k1_3 : w3.cell? ⟨W.heap.size + 1, 3, none⟩ = some (.int .i64 rh) := k1.at_ 3 rfl
      have k1_z : W.heap.size + 1 < w3.heap.size := k1.lt
      have k2_0 : w3.cell? ⟨w1.heap.size, 0, none⟩ = some (.int .i64 gw) := k2.at_ 0 rfl
      have k2_1 : w3.cell? ⟨w1.heap.size, 1, none⟩ = some (.int .i64 gh) := k2.at_ 1 rfl
      have k2_2 : w3.cell? ⟨w1.heap.size, 2, none⟩ = some (.slice a1 l.length c1) := k2.at_ 2 rfl
      have k2_z : w1.heap.size < w3.heap.size := k2.lt
      have k3_0 : w3.cell? ⟨w1.heap.size + 1, 0, none⟩ = some (.int .i64 gw) := k3.at_ 0 rfl
      have k3_1 : w3.cell? ⟨w1.heap.size + 1, 1, none⟩ = some (.int .i64 gh) := k3.at_ 1 rfl
      have k3_2 : w3.cell? ⟨w1.heap.size + 1, 2, none⟩ = some (.slice a2 l.length c2) := k3.at_ 2 rfl
      have k3_z : w1.heap.size + 1 < w3.heap.size := k3.lt
      go_wp2
      go_ret
      exact ⟨rfl, hB3⟩
    · by_cases t2 : 100 < rh ∧ rh ≤ 4194304
      · rcases (show rw ≤ 100 ∨ 4194304 < rw by omega) with t1 | t1
        · obtain ⟨t2, t2'⟩ := t2
          go_wp2_with fail
          go_at_call 10
          refine (lives_ok _).mono ?_
          rintro e w2 ⟨rfl, hb2⟩
          replace k0 : Blk w2 (W.heap.size) 24 #[.int .i64 sw, .int .i64 sh, .slice a zs.length c, .bool fill] := (((k0.alloc _).alloc _)).below hb2 (by first | omega | (simp; done) | (simp; omega))
          replace k1 : Blk w2 (W.heap.size + 1) 26 #[.int .i64 X, .int .i64 Y, .int .i64 rw, .int .i64 rh] := (((k1.alloc _).alloc _)).below hb2 (by first | omega | (simp; done) | (simp; omega))
          have k2 : Blk w2 (w1.heap.size) 28 #[.int .i64 gw, .int .i64 gh, .slice a1 l.length c1] := (((Blk.new _ _ _ (by first | rfl | simp)).alloc _)).below hb2 (by first | omega | (simp; done) | (simp; omega))
          have k3 : Blk w2 (w1.heap.size + 1) 30 #[.int .i64 gw, .int .i64 gh, .slice a2 l.length c2] := ((Blk.new _ _ _ (by first | rfl | simp))).below hb2 (by first | omega | (simp; done) | (simp; omega))
          replace s1 : SlI w2 .i64 8 l a1 c1 := (((s1.alloc _).alloc _)).below hb2 (by first | omega | (simp; done) | (simp; omega))
          replace s2 : SlI w2 .i64 8 l a2 c2 := (((s2.alloc _).alloc _)).below hb2 (by first | omega | (simp; done) | (simp; omega))
          have hB2 : Below W.heap.size W w2 := (((hB1.alloc (by first | omega | (simp; done) | (simp; omega)) _).alloc (by first | omega | (simp; done) | (simp; omega)) _)).trans (hb2.mono (by first | omega | (simp; done) | (simp; omega)))
          clear hB1
          have z2 := hb2.size
          try simp at z2
          clear k0_0 k0_1 k0_2 k0_3 k0_z k1_0 k1_1 k1_2 k1_3 k1_z
          have k0_0 : w2.cell? ⟨W.heap.size, 0, none⟩ = some (.int .i64 sw) := k0.at_ 0 rfl
          have k0_1 : w2.cell? ⟨W.heap.size, 1, none⟩ = some (.int .i64 sh) := k0.at_ 1 rfl
          have k0_2 : w2.cell? ⟨W.heap.size, 2, none⟩ = some (.slice a zs.length c) := k0.at_ 2 rfl
          have k0_3 : w2.cell? ⟨W.heap.size, 3, none⟩ = some (.bool fill) := k0.at_ 3 rfl
          have k0_z : W.heap.size < w2.heap.size := k0.lt
          have k1_0 : w2.cell? ⟨W.heap.size + 1, 0, none⟩ = some (.int .i64 X) := k1.at_ 0 rfl
          have k1_1 : w2.cell? ⟨W.heap.size + 1, 1, none⟩ = some (.int .i64 Y) := k1.at_ 1 rfl
          have k1_2 : w2.cell? ⟨W.heap.size + 1, 2, none⟩ = some (.int .i64 rw) := k1.at_ 2 rfl
          have k1_3 : w2.cell? ⟨W.heap.size + 1, 3, none⟩ = some (.int .i64 rh) := k1.at_ 3 rfl
          have k1_z : W.heap.size + 1 < w2.heap.size := k1.lt
          have k2_0 : w2.cell? ⟨w1.heap.size, 0, none⟩ = some (.int .i64 gw) := k2.at_ 0 rfl
          have k2_1 : w2.cell? ⟨w1.heap.size, 1, none⟩ = some (.int .i64 gh) := k2.at_ 1 rfl
          have k2_2 : w2.cell? ⟨w1.heap.size, 2, none⟩ = some (.slice a1 l.length c1) := k2.at_ 2 rfl
          have k2_z : w1.heap.size < w2.heap.size := k2.lt
          have k3_0 : w2.cell? ⟨w1.heap.size + 1, 0, none⟩ = some (.int .i64 gw) := k3.at_ 0 rfl
          have k3_1 : w2.cell? ⟨w1.heap.size + 1, 1, none⟩ = some (.int .i64 gh) := k3.at_ 1 rfl
          have k3_2 : w2.cell? ⟨w1.heap.size + 1, 2, none⟩ = some (.slice a2 l.length c2) := k3.at_ 2 rfl
          have k3_z : w1.heap.size + 1 < w2.heap.size := k3.lt
          go_wp2_with fail
          go_at_call 10
          refine (lives_ok _).mono ?_
          rintro e w3 ⟨rfl, hb3⟩
          replace k0 : Blk w3 (W.heap.size) 24 #[.int .i64 sw, .int .i64 sh, .slice a zs.length c, .bool fill] := (k0).below hb3 (by first | omega | (simp; done) | (simp; omega))
          replace k1 : Blk w3 (W.heap.size + 1) 26 #[.int .i64 X, .int .i64 Y, .int .i64 rw, .int .i64 rh] := (k1).below hb3 (by first | omega | (simp; done) | (simp; omega))
          replace k2 : Blk w3 (w1.heap.size) 28 #[.int .i64 gw, .int .i64 gh, .slice a1 l.length c1] := (k2).below hb3 (by first | omega | (simp; done) | (simp; omega))
          replace k3 : Blk w3 (w1.heap.size + 1) 30 #[.int .i64 gw, .int .i64 gh, .slice a2 l.length c2] := (k3).below hb3 (by first | omega | (simp; done) | (simp; omega))
          replace s1 : SlI w3 .i64 8 l a1 c1 := (s1).below hb3 (by first | omega | (simp; done) | (simp; omega))
          replace s2 : SlI w3 .i64 8 l a2 c2 := (s2).below hb3 (by first | omega | (simp; done) | (simp; omega))
          have hB3 : Below W.heap.size W w3 := (hB2).trans (hb3.mono (by first | omega | (simp; done) | (simp; omega)))
          clear hB2
          have z3 := hb3.size
          try simp at z3
          clear k0_0 k0_1 k0_2 k0_3 k0_z k1_0 k1_1 k1_2 k1_3 k1_z k2_0 k2_1 k2_2 k2_z k3_0 k3_1 k3_2 k3_z
          have k0_0 : w3.cell? ⟨W.heap.size, 0, none⟩ = some (.int .i64 sw) := k0.at_ 0 rfl
          have k0_1 : w3.cell? ⟨W.heap.size, 1, none⟩ = some (.int .i64 sh) := k0.at_ 1 rfl
          have k0_2 : w3.cell? ⟨W.heap.size, 2, none⟩ = some (.slice a zs.length c) := k0.at_ 2 rfl
          have k0_3 : w3.cell? ⟨W.heap.size, 3, none⟩ = some (.bool fill) := k0.at_ 3 rfl
          have k0_z : W.heap.size < w3.heap.size := k0.lt
          have k1_0 : w3.cell? ⟨W.heap.size + 1, 0, none⟩ = some (.int .i64 X) := k1.at_ 0 rfl
          have k1_1 : w3.cell? ⟨W.heap.size + 1, 1, none⟩ = some (.int .i64 Y) := k1.at_ 1 rfl
          have k1_2 : w3.cell? ⟨W.heap.size + 1, 2, none⟩ = some (.int .i64 rw) := k1.at_ 2 rfl
          have k1_3 : w3.cell? ⟨W.heap.size + 1, 3, none⟩ = some (.int .i64 rh) := k1.at_ 3 rfl
          have k1_z : W.heap.size + 1 < w3.heap.size := k1.lt
          have k2_0 : w3.cell? ⟨w1.heap.size, 0, none⟩ = some (.int .i64 gw) := k2.at_ 0 rfl
          have k2_1 : w3.cell? ⟨w1.heap.size, 1, none⟩ = some (.int .i64 gh) := k2.at_ 1 rfl
          have k2_2 : w3.cell? ⟨w1.heap.size, 2, none⟩ = some (.slice a1 l.length c1) := k2.at_ 2 rfl
          have k2_z : w1.heap.size < w3.heap.size := k2.lt
          have k3_0 : w3.cell? ⟨w1.heap.size + 1, 0, none⟩ = some (.int .i64 gw) := k3.at_ 0 rfl
          have k3_1 : w3.cell? ⟨w1.heap.size + 1, 1, none⟩ = some (.int .i64 gh) := k3.at_ 1 rfl
          have k3_2 : w3.cell? ⟨w1.heap.size + 1, 2, none⟩ = some (.slice a2 l.length c2) := k3.at_ 2 rfl
          have k3_z : w1.heap.size + 1 < w3.heap.size := k3.lt
          go_wp2
          go_ret
          exact ⟨rfl, hB3⟩
        · obtain ⟨t2, t2'⟩ := t2
          go_wp2_with fail
          go_at_call 10
          refine (lives_ok _).mono ?_
          rintro e w2 ⟨rfl, hb2⟩
          replace k0 : Blk w2 (W.heap.size) 24 #[.int .i64 sw, .int .i64 sh, .slice a zs.length c, .bool fill] := (((k0.alloc _).alloc _)).below hb2 (by first | omega | (simp; done) | (simp; omega))
          replace k1 : Blk w2 (W.heap.size + 1) 26 #[.int .i64 X, .int .i64 Y, .int .i64 rw, .int .i64 rh] := (((k1.alloc _).alloc _)).below hb2 (by first | omega | (simp; done) | (simp; omega))
          have k2 : Blk w2 (w1.heap.size) 28 #[.int .i64 gw, .int .i64 gh, .slice a1 l.length c1] := (((Blk.new _ _ _ (by first | rfl | simp)).alloc _)).below hb2 (by first | omega | (simp; done) | (simp; omega))
          have k3 : Blk w2 (w1.heap.size + 1) 30 #[.int .i64 gw, .int .i64 gh, .slice a2 l.length c2] := ((Blk.new _ _ _ (by first | rfl | simp))).below hb2 (by first | omega | (simp; done) | (simp; omega))
          replace s1 : SlI w2 .i64 8 l a1 c1 := (((s1.alloc _).alloc _)).below hb2 (by first | omega | (simp; done) | (simp; omega))
          replace s2 : SlI w2 .i64 8 l a2 c2 := (((s2.alloc _).alloc _)).below hb2 (by first | omega | (simp; done) | (simp; omega))
          have hB2 : Below W.heap.size W w2 := (((hB1.alloc (by first | omega | (simp; done) | (simp; omega)) _).alloc (by first | omega | (simp; done) | (simp; omega)) _)).trans (hb2.mono (by first | omega | (simp; done) | (simp; omega)))
          clear hB1
          have z2 := hb2.size
          try simp at z2
          clear k0_0 k0_1 k0_2 k0_3 k0_z k1_0 k1_1 k1_2 k1_3 k1_z
          have k0_0 : w2.cell? ⟨W.heap.size, 0, none⟩ = some (.int .i64 sw) := k0.at_ 0 rfl
          have k0_1 : w2.cell? ⟨W.heap.size, 1, none⟩ = some (.int .i64 sh) := k0.at_ 1 rfl
          have k0_2 : w2.cell? ⟨W.heap.size, 2, none⟩ = some (.slice a zs.length c) := k0.at_ 2 rfl
          have k0_3 : w2.cell? ⟨W.heap.size, 3, none⟩ = some (.bool fill) := k0.at_ 3 rfl
          have k0_z : W.heap.size < w2.heap.size := k0.lt
          have k1_0 : w2.cell? ⟨W.heap.size + 1, 0, none⟩ = some (.int .i64 X) := k1.at_ 0 rfl
          have k1_1 : w2.cell? ⟨W.heap.size + 1, 1, none⟩ = some (.int .i64 Y) := k1.at_ 1 rfl
          have k1_2 : w2.cell? ⟨W.heap.size + 1, 2, none⟩ = some (.int .i64 rw) := k1.at_ 2 rfl
          have k1_3 : w2.cell? ⟨W.heap.size + 1, 3, none⟩ = some (.int .i64 rh) := k1.at_ 3 rfl
          have k1_z : W.heap.size + 1 < w2.heap.size := k1.lt
          have k2_0 : w2.cell? ⟨w1.heap.size, 0, none⟩ = some (.int .i64 gw) := k2.at_ 0 rfl
          have k2_1 : w2.cell? ⟨w1.heap.size, 1, none⟩ = some (.int .i64 gh) := k2.at_ 1 rfl
          have k2_2 : w2.cell? ⟨w1.heap.size, 2, none⟩ = some (.slice a1 l.length c1) := k2.at_ 2 rfl
          have k2_z : w1.heap.size < w2.heap.size := k2.lt
          have k3_0 : w2.cell? ⟨w1.heap.size + 1, 0, none⟩ = some (.int .i64 gw) := k3.at_ 0 rfl
          have k3_1 : w2.cell? ⟨w1.heap.size + 1, 1, none⟩ = some (.int .i64 gh) := k3.at_ 1 rfl
          have k3_2 : w2.cell? ⟨w1.heap.size + 1, 2, none⟩ = some (.slice a2 l.length c2) := k3.at_ 2 rfl
          have k3_z : w1.heap.size + 1 < w2.heap.size := k3.lt
          go_wp2_with fail
          go_at_call 10
          refine (lives_ok _).mono ?_
          rintro e w3 ⟨rfl, hb3⟩
          replace k0 : Blk w3 (W.heap.size) 24 #[.int .i64 sw, .int .i64 sh, .slice a zs.length c, .bool fill] := (k0).below hb3 (by first | omega | (simp; done) | (simp; omega))
          replace k1 : Blk w3 (W.heap.size + 1) 26 #[.int .i64 X, .int .i64 Y, .int .i64 rw, .int .i64 rh] := (k1).below hb3 (by first | omega | (simp; done) | (simp; omega))
          replace k2 : Blk w3 (w1.heap.size) 28 #[.int .i64 gw, .int .i64 gh, .slice a1 l.length c1] := (k2).below hb3 (by first | omega | (simp; done) | (simp; omega))
          replace k3 : Blk w3 (w1.heap.size + 1) 30 #[.int .i64 gw, .int .i64 gh, .slice a2 l.length c2] := (k3).below hb3 (by first | omega | (simp; done) | (simp; omega))
          replace s1 : SlI w3 .i64 8 l a1 c1 := (s1).below hb3 (by first | omega | (simp; done) | (simp; omega))
          replace s2 : SlI w3 .i64 8 l a2 c2 := (s2).below hb3 (by first | omega | (simp; done) | (simp; omega))
          have hB3 : Below W.heap.size W w3 := (hB2).trans (hb3.mono (by first | omega | (simp; done) | (simp; omega)))
          clear hB2
          have z3 := hb3.size
          try simp at z3
          clear k0_0 k0_1 k0_2 k0_3 k0_z k1_0 k1_1 k1_2 k1_3 k1_z k2_0 k2_1 k2_2 k2_z k3_0 k3_1 k3_2 k3_z
          have k0_0 : w3.cell? ⟨W.heap.size, 0, none⟩ = some (.int .i64 sw) := k0.at_ 0 rfl
          have k0_1 : w3.cell? ⟨W.heap.size, 1, none⟩ = some (.int .i64 sh) := k0.at_ 1 rfl
          have k0_2 : w3.cell? ⟨W.heap.size, 2, none⟩ = some (.slice a zs.length c) := k0.at_ 2 rfl
          have k0_3 : w3.cell? ⟨W.heap.size, 3, none⟩ = some (.bool fill) := k0.at_ 3 rfl
          have k0_z : W.heap.size < w3.heap.size := k0.lt
          have k1_0 : w3.cell? ⟨W.heap.size + 1, 0, none⟩ = some (.int .i64 X) := k1.at_ 0 rfl
          have k1_1 : w3.cell? ⟨W.heap.size + 1, 1, none⟩ = some (.int .i64 Y) := k1.at_ 1 rfl
          have k1_2 : w3.cell? ⟨W.heap.size + 1, 2, none⟩ = some (.int .i64 rw) := k1.at_ 2 rfl
          have k1_3 : w3.cell? ⟨W.heap.size + 1, 3, none⟩ = some (.int .i64 rh) := k1.at_ 3 rfl
          have k1_z : W.heap.size + 1 < w3.heap.size := k1.lt
          have k2_0 : w3.cell? ⟨w1.heap.size, 0, none⟩ = some (.int .i64 gw) := k2.at_ 0 rfl
          have k2_1 : w3.cell? ⟨w1.heap.size, 1, none⟩ = some (.int .i64 gh) := k2.at_ 1 rfl
          have k2_2 : w3.cell? ⟨w1.heap.size, 2, none⟩ = some (.slice a1 l.length c1) := k2.at_ 2 rfl
          have k2_z : w1.heap.size < w3.heap.size := k2.lt
          have k3_0 : w3.cell? ⟨w1.heap.size + 1, 0, none⟩ = some (.int .i64 gw) := k3.at_ 0 rfl
          have k3_1 : w3.cell? ⟨w1.heap.size + 1, 1, none⟩ = some (.int .i64 gh) := k3.at_ 1 rfl
          have k3_2 : w3.cell? ⟨w1.heap.size + 1, 2, none⟩ = some (.slice a2 l.length c2) := k3.at_ 2 rfl
          have k3_z : w1.heap.size + 1 < w3.heap.size := k3.lt
          go_wp2
          go_ret
          exact ⟨rfl, hB3⟩
      · rcases (show rw ≤ 100 ∨ 4194304 < rw by omega) with t1 | t1
        · rcases (show rh ≤ 100 ∨ 4194304 < rh by omega) with t2 | t2
          · by_cases t3 : 1099511627776 < X
            · go_wp2_with fail
              go_at_call 10
              refine (lives_ok _).mono ?_
              rintro e w2 ⟨rfl, hb2⟩
              replace k0 : Blk w2 (W.heap.size) 24 #[.int .i64 sw, .int .i64 sh, .slice a zs.length c, .bool fill] := (((k0.alloc _).alloc _)).below hb2 (by first | omega | (simp; done) | (simp; omega))
              replace k1 : Blk w2 (W.heap.size + 1) 26 #[.int .i64 X, .int .i64 Y, .int .i64 rw, .int .i64 rh] := (((k1.alloc _).alloc _)).below hb2 (by first | omega | (simp; done) | (simp; omega))
              have k2 : Blk w2 (w1.heap.size) 28 #[.int .i64 gw, .int .i64 gh, .slice a1 l.length c1] := (((Blk.new _ _ _ (by first | rfl | simp)).alloc _)).below hb2 (by first | omega | (simp; done) | (simp; omega))
              have k3 : Blk w2 (w1.heap.size + 1) 30 #[.int .i64 gw, .int .i64 gh, .slice a2 l.length c2] := ((Blk.new _ _ _ (by first | rfl | simp))).below hb2 (by first | omega | (simp; done) | (simp; omega))
              replace s1 : SlI w2 .i64 8 l a1 c1 := (((s1.alloc _).alloc _)).below hb2 (by first | omega | (simp; done) | (simp; omega))
              replace s2 : SlI w2 .i64 8 l a2 c2 := (((s2.alloc _).alloc _)).below hb2 (by first | omega | (simp; done) | (simp; omega))
              have hB2 : Below W.heap.size W w2 := (((hB1.alloc (by first | omega | (simp; done) | (simp; omega)) _).alloc (by first | omega | (simp; done) | (simp; omega)) _)).trans (hb2.mono (by first | omega | (simp; done) | (simp; omega)))
              clear hB1
              have z2 := hb2.size
              try simp at z2
              clear k0_0 k0_1 k0_2 k0_3 k0_z k1_0 k1_1 k1_2 k1_3 k1_z
              have k0_0 : w2.cell? ⟨W.heap.size, 0, none⟩ = some (.int .i64 sw) := k0.at_ 0 rfl
              have k0_1 : w2.cell? ⟨W.heap.size, 1, none⟩ = some (.int .i64 sh) := k0.at_ 1 rfl
              have k0_2 : w2.cell? ⟨W.heap.size, 2, none⟩ = some (.slice a zs.length c) := k0.at_ 2 rfl
              have k0_3 : w2.cell? ⟨W.heap.size, 3, none⟩ = some (.bool fill) := k0.at_ 3 rfl
              have k0_z : W.heap.size < w2.heap.size := k0.lt
              have k1_0 : w2.cell? ⟨W.heap.size + 1, 0, none⟩ = some (.int .i64 X) := k1.at_ 0 rfl
              have k1_1 : w2.cell? ⟨W.heap.size + 1, 1, none⟩ = some (.int .i64 Y) := k1.at_ 1 rfl
              have k1_2 : w2.cell? ⟨W.heap.size + 1, 2, none⟩ = some (.int .i64 rw) := k1.at_ 2 rfl
              have k1_3 : w2.cell? ⟨W.heap.size + 1, 3, none⟩ = some (.int .i64 rh) := k1.at_ 3 rfl
              have k1_z : W.heap.size + 1 < w2.heap.size := k1.lt
              have k2_0 : w2.cell? ⟨w1.heap.size, 0, none⟩ = some (.int .i64 gw) := k2.at_ 0 rfl
              have k2_1 : w2.cell? ⟨w1.heap.size, 1, none⟩ = some (.int .i64 gh) := k2.at_ 1 rfl
              have k2_2 : w2.cell? ⟨w1.heap.size, 2, none⟩ = some (.slice a1 l.length c1) := k2.at_ 2 rfl
              have k2_z : w1.heap.size < w2.heap.size := k2.lt
              have k3_0 : w2.cell? ⟨w1.heap.size + 1, 0, none⟩ = some (.int .i64 gw) := k3.at_ 0 rfl
              have k3_1 : w2.cell? ⟨w1.heap.size + 1, 1, none⟩ = some (.int .i64 gh) := k3.at_ 1 rfl
              have k3_2 : w2.cell? ⟨w1.heap.size + 1, 2, none⟩ = some (.slice a2 l.length c2) := k3.at_ 2 rfl
              have k3_z : w1.heap.size + 1 < w2.heap.size := k3.lt
              go_wp2_with fail
              go_at_call 10
              refine (lives_ok _).mono ?_
              rintro e w3 ⟨rfl, hb3⟩
              replace k0 : Blk w3 (W.heap.size) 24 #[.int .i64 sw, .int .i64 sh, .slice a zs.length c, .bool fill] := (k0).below hb3 (by first | omega | (simp; done) | (simp; omega))
              replace k1 : Blk w3 (W.heap.size + 1) 26 #[.int .i64 X, .int .i64 Y, .int .i64 rw, .int .i64 rh] := (k1).below hb3 (by first | omega | (simp; done) | (simp; omega))
              replace k2 : Blk w3 (w1.heap.size) 28 #[.int .i64 gw, .int .i64 gh, .slice a1 l.length c1] := (k2).below hb3 (by first | omega | (simp; done) | (simp; omega))
              replace k3 : Blk w3 (w1.heap.size + 1) 30 #[.int .i64 gw, .int .i64 gh, .slice a2 l.length c2] := (k3).below hb3 (by first | omega | (simp; done) | (simp; omega))
              replace s1 : SlI w3 .i64 8 l a1 c1 := (s1).below hb3 (by first | omega | (simp; done) | (simp; omega))
              replace s2 : SlI w3 .i64 8 l a2 c2 := (s2).below hb3 (by first | omega | (simp; done) | (simp; omega))
              have hB3 : Below W.heap.size W w3 := (hB2).trans (hb3.mono (by first | omega | (simp; done) | (simp; omega)))
              clear hB2
              have z3 := hb3.size
              try simp at z3
              clear k0_0 k0_1 k0_2 k0_3 k0_z k1_0 k1_1 k1_2 k1_3 k1_z k2_0 k2_1 k2_2 k2_z k3_0 k3_1 k3_2 k3_z
              have k0_0 : w3.cell? ⟨W.heap.size, 0, none⟩ = some (.int .i64 sw) := k0.at_ 0 rfl
              have k0_1 : w3.cell? ⟨W.heap.size, 1, none⟩ = some (.int .i64 sh) := k0.at_ 1 rfl
              have k0_2 : w3.cell? ⟨W.heap.size, 2, none⟩ = some (.slice a zs.length c) := k0.at_ 2 rfl
              have k0_3 : w3.cell? ⟨W.heap.size, 3, none⟩ = some (.bool fill) := k0.at_ 3 rfl
              have k0_z : W.heap.size < w3.heap.size := k0.lt
              have k1_0 : w3.cell? ⟨W.heap.size + 1, 0, none⟩ = some (.int .i64 X) := k1.at_ 0 rfl
              have k1_1 : w3.cell? ⟨W.heap.size + 1, 1, none⟩ = some (.int .i64 Y) := k1.at_ 1 rfl
              have k1_2 : w3.cell? ⟨W.heap.size + 1, 2, none⟩ = some (.int .i64 rw) := k1.at_ 2 rfl
              have k1_3 : w3.cell? ⟨W.heap.size + 1, 3, none⟩ = some (.int .i64 rh) := k1.at_ 3 rfl
              have k1_z : W.heap.size + 1 < w3.heap.size := k1.lt
              have k2_0 : w3.cell? ⟨w1.heap.size, 0, none⟩ = some (.int .i64 gw) := k2.at_ 0 rfl
              have k2_1 : w3.cell? ⟨w1.heap.size, 1, none⟩ = some (.int .i64 gh) := k2.at_ 1 rfl
              have k2_2 : w3.cell? ⟨w1.heap.size, 2, none⟩ = some (.slice a1 l.length c1) := k2.at_ 2 rfl
              have k2_z : w1.heap.size < w3.heap.size := k2.lt
              have k3_0 : w3.cell? ⟨w1.heap.size + 1, 0, none⟩ = some (.int .i64 gw) := k3.at_ 0 rfl
              have k3_1 : w3.cell? ⟨w1.heap.size + 1, 1, none⟩ = some (.int .i64 gh) := k3.at_ 1 rfl
              have k3_2 : w3.cell? ⟨w1.heap.size + 1, 2, none⟩ = some (.slice a2 l.length c2) := k3.at_ 2 rfl
              have k3_z : w1.heap.size + 1 < w3.heap.size := k3.lt
              go_wp2
              go_ret
              exact ⟨rfl, hB3⟩
            · by_cases t4 : 1099511627776 < Y
              · go_wp2_with fail
                go_at_call 10
                refine (lives_ok _).mono ?_
                rintro e w2 ⟨rfl, hb2⟩
                replace k0 : Blk w2 (W.heap.size) 24 #[.int .i64 sw, .int .i64 sh, .slice a zs.length c, .bool fill] := (((k0.alloc _).alloc _)).below hb2 (by first | omega | (simp; done) | (simp; omega))
                replace k1 : Blk w2 (W.heap.size + 1) 26 #[.int .i64 X, .int .i64 Y, .int .i64 rw, .int .i64 rh] := (((k1.alloc _).alloc _)).below hb2 (by first | omega | (simp; done) | (simp; omega))
                have k2 : Blk w2 (w1.heap.size) 28 #[.int .i64 gw, .int .i64 gh, .slice a1 l.length c1] := (((Blk.new _ _ _ (by first | rfl | simp)).alloc _)).below hb2 (by first | omega | (simp; done) | (simp; omega))
                have k3 : Blk w2 (w1.heap.size + 1) 30 #[.int .i64 gw, .int .i64 gh, .slice a2 l.length c2] := ((Blk.new _ _ _ (by first | rfl | simp))).below hb2 (by first | omega | (simp; done) | (simp; omega))
                replace s1 : SlI w2 .i64 8 l a1 c1 := (((s1.alloc _).alloc _)).below hb2 (by first | omega | (simp; done) | (simp; omega))
                replace s2 : SlI w2 .i64 8 l a2 c2 := (((s2.alloc _).alloc _)).below hb2 (by first | omega | (simp; done) | (simp; omega))
                have hB2 : Below W.heap.size W w2 := (((hB1.alloc (by first | omega | (simp; done) | (simp; omega)) _).alloc (by first | omega | (simp; done) | (simp; omega)) _)).trans (hb2.mono (by first | omega | (simp; done) | (simp; omega)))
                clear hB1
                have z2 := hb2.size
                try simp at z2
                clear k0_0 k0_1 k0_2 k0_3 k0_z k1_0 k1_1 k1_2 k1_3 k1_z
                have k0_0 : w2.cell? ⟨W.heap.size, 0, none⟩ = some (.int .i64 sw) := k0.at_ 0 rfl
                have k0_1 : w2.cell? ⟨W.heap.size, 1, none⟩ = some (.int .i64 sh) := k0.at_ 1 rfl
                have k0_2 : w2.cell? ⟨W.heap.size, 2, none⟩ = some (.slice a zs.length c) := k0.at_ 2 rfl
                have k0_3 : w2.cell? ⟨W.heap.size, 3, none⟩ = some (.bool fill) := k0.at_ 3 rfl
                have k0_z : W.heap.size < w2.heap.size := k0.lt
                have k1_0 : w2.cell? ⟨W.heap.size + 1, 0, none⟩ = some (.int .i64 X) := k1.at_ 0 rfl
                have k1_1 : w2.cell? ⟨W.heap.size + 1, 1, none⟩ = some (.int .i64 Y) := k1.at_ 1 rfl
                have k1_2 : w2.cell? ⟨W.heap.size + 1, 2, none⟩ = some (.int .i64 rw) := k1.at_ 2 rfl
                have k1_3 : w2.cell? ⟨W.heap.size + 1, 3, none⟩ = some (.int .i64 rh) := k1.at_ 3 rfl
                have k1_z : W.heap.size + 1 < w2.heap.size := k1.lt
                have k2_0 : w2.cell? ⟨w1.heap.size, 0, none⟩ = some (.int .i64 gw) := k2.at_ 0 rfl
                have k2_1 : w2.cell? ⟨w1.heap.size, 1, none⟩ = some (.int .i64 gh) := k2.at_ 1 rfl
                have k2_2 : w2.cell? ⟨w1.heap.size, 2, none⟩ = some (.slice a1 l.length c1) := k2.at_ 2 rfl
                have k2_z : w1.heap.size < w2.heap.size := k2.lt
                have k3_0 : w2.cell? ⟨w1.heap.size + 1, 0, none⟩ = some (.int .i64 gw) := k3.at_ 0 rfl
                have k3_1 : w2.cell? ⟨w1.heap.size + 1, 1, none⟩ = some (.int .i64 gh) := k3.at_ 1 rfl
                have k3_2 : w2.cell? ⟨w1.heap.size + 1, 2, none⟩ = some (.slice a2 l.length c2) := k3.at_ 2 rfl
                have k3_z : w1.heap.size + 1 < w2.heap.size := k3.lt
                go_wp2_with fail
                go_at_call 10
                refine (lives_ok _).mono ?_
                rintro e w3 ⟨rfl, hb3⟩
                replace k0 : Blk w3 (W.heap.size) 24 #[.int .i64 sw, .int .i64 sh, .slice a zs.length c, .bool fill] := (k0).below hb3 (by first | omega | (simp; done) | (simp; omega))
                replace k1 : Blk w3 (W.heap.size + 1) 26 #[.int .i64 X, .int .i64 Y, .int .i64 rw, .int .i64 rh] := (k1).below hb3 (by first | omega | (simp; done) | (simp; omega))
                replace k2 : Blk w3 (w1.heap.size) 28 #[.int .i64 gw, .int .i64 gh, .slice a1 l.length c1] := (k2).below hb3 (by first | omega | (simp; done) | (simp; omega))
                replace k3 : Blk w3 (w1.heap.size + 1) 30 #[.int .i64 gw, .int .i64 gh, .slice a2 l.length c2] := (k3).below hb3 (by first | omega | (simp; done) | (simp; omega))
                replace s1 : SlI w3 .i64 8 l a1 c1 := (s1).below hb3 (by first | omega | (simp; done) | (simp; omega))
                replace s2 : SlI w3 .i64 8 l a2 c2 := (s2).below hb3 (by first | omega | (simp; done) | (simp; omega))
                have hB3 : Below W.heap.size W w3 := (hB2).trans (hb3.mono (by first | omega | (simp; done) | (simp; omega)))
                clear hB2
                have z3 := hb3.size
                try simp at z3
                clear k0_0 k0_1 k0_2 k0_3 k0_z k1_0 k1_1 k1_2 k1_3 k1_z k2_0 k2_1 k2_2 k2_z k3_0 k3_1 k3_2 k3_z
                have k0_0 : w3.cell? ⟨W.heap.size, 0, none⟩ = some (.int .i64 sw) := k0.at_ 0 rfl
                have k0_1 : w3.cell? ⟨W.heap.size, 1, none⟩ = some (.int .i64 sh) := k0.at_ 1 rfl
                have k0_2 : w3.cell? ⟨W.heap.size, 2, none⟩ = some (.slice a zs.length c) := k0.at_ 2 rfl
                have k0_3 : w3.cell? ⟨W.heap.size, 3, none⟩ = some (.bool fill) := k0.at_ 3 rfl
                have k0_z : W.heap.size < w3.heap.size := k0.lt
                have k1_0 : w3.cell? ⟨W.heap.size + 1, 0, none⟩ = some (.int .i64 X) := k1.at_ 0 rfl
                have k1_1 : w3.cell? ⟨W.heap.size + 1, 1, none⟩ = some (.int .i64 Y) := k1.at_ 1 rfl
                have k1_2 : w3.cell? ⟨W.heap.size + 1, 2, none⟩ = some (.int .i64 rw) := k1.at_ 2 rfl
                have k1_3 : w3.cell? ⟨W.heap.size + 1, 3, none⟩ = some (.int .i64 rh) := k1.at_ 3 rfl
                have k1_z : W.heap.size + 1 < w3.heap.size := k1.lt
                have k2_0 : w3.cell? ⟨w1.heap.size, 0, none⟩ = some (.int .i64 gw) := k2.at_ 0 rfl
                have k2_1 : w3.cell? ⟨w1.heap.size, 1, none⟩ = some (.int .i64 gh) := k2.at_ 1 rfl
                have k2_2 : w3.cell? ⟨w1.heap.size, 2, none⟩ = some (.slice a1 l.length c1) := k2.at_ 2 rfl
                have k2_z : w1.heap.size < w3.heap.size := k2.lt
                have k3_0 : w3.cell? ⟨w1.heap.size + 1, 0, none⟩ = some (.int .i64 gw) := k3.at_ 0 rfl
                have k3_1 : w3.cell? ⟨w1.heap.size + 1, 1, none⟩ = some (.int .i64 gh) := k3.at_ 1 rfl
                have k3_2 : w3.cell? ⟨w1.heap.size + 1, 2, none⟩ = some (.slice a2 l.length c2) := k3.at_ 2 rfl
                have k3_z : w1.heap.size + 1 < w3.heap.size := k3.lt
                go_wp2
                go_ret
                exact ⟨rfl, hB3⟩
              · cases hn : (fitsB rw rh && hasB gw gh l.length X Y) with
                | false =>
                  have HN := Lib.hid hn
                  clear hn
                  go_wp2_with fail
                  go_at_call 10
                  refine (lives_ok _).mono ?_
                  rintro e w2 ⟨rfl, hb2⟩
                  replace k0 : Blk w2 (W.heap.size) 24 #[.int .i64 sw, .int .i64 sh, .slice a zs.length c, .bool fill] := (((k0.alloc _).alloc _)).below hb2 (by first | omega | (simp; done) | (simp; omega))
                  replace k1 : Blk w2 (W.heap.size + 1) 26 #[.int .i64 X, .int .i64 Y, .int .i64 rw, .int .i64 rh] := (((k1.alloc _).alloc _)).below hb2 (by first | omega | (simp; done) | (simp; omega))
                  have k2 : Blk w2 (w1.heap.size) 28 #[.int .i64 gw, .int .i64 gh, .slice a1 l.length c1] := (((Blk.new _ _ _ (by first | rfl | simp)).alloc _)).below hb2 (by first | omega | (simp; done) | (simp; omega))
                  have k3 : Blk w2 (w1.heap.size + 1) 30 #[.int .i64 gw, .int .i64 gh, .slice a2 l.length c2] := ((Blk.new _ _ _ (by first | rfl | simp))).below hb2 (by first | omega | (simp; done) | (simp; omega))
                  replace s1 : SlI w2 .i64 8 l a1 c1 := (((s1.alloc _).alloc _)).below hb2 (by first | omega | (simp; done) | (simp; omega))
                  replace s2 : SlI w2 .i64 8 l a2 c2 := (((s2.alloc _).alloc _)).below hb2 (by first | omega | (simp; done) | (simp; omega))
                  have hB2 : Below W.heap.size W w2 := (((hB1.alloc (by first | omega | (simp; done) | (simp; omega)) _).alloc (by first | omega | (simp; done) | (simp; omega)) _)).trans (hb2.mono (by first | omega | (simp; done) | (simp; omega)))
                  clear hB1
                  have z2 := hb2.size
                  try simp at z2
                  clear k0_0 k0_1 k0_2 k0_3 k0_z k1_0 k1_1 k1_2 k1_3 k1_z
                  have k0_0 : w2.cell? ⟨W.heap.size, 0, none⟩ = some (.int .i64 sw) := k0.at_ 0 rfl
                  have k0_1 : w2.cell? ⟨W.heap.size, 1, none⟩ = some (.int .i64 sh) := k0.at_ 1 rfl
                  have k0_2 : w2.cell? ⟨W.heap.size, 2, none⟩ = some (.slice a zs.length c) := k0.at_ 2 rfl
                  have k0_3 : w2.cell? ⟨W.heap.size, 3, none⟩ = some (.bool fill) := k0.at_ 3 rfl
                  have k0_z : W.heap.size < w2.heap.size := k0.lt
                  have k1_0 : w2.cell? ⟨W.heap.size + 1, 0, none⟩ = some (.int .i64 X) := k1.at_ 0 rfl
                  have k1_1 : w2.cell? ⟨W.heap.size + 1, 1, none⟩ = some (.int .i64 Y) := k1.at_ 1 rfl
                  have k1_2 : w2.cell? ⟨W.heap.size + 1, 2, none⟩ = some (.int .i64 rw) := k1.at_ 2 rfl
                  have k1_3 : w2.cell? ⟨W.heap.size + 1, 3, none⟩ = some (.int .i64 rh) := k1.at_ 3 rfl
                  have k1_z : W.heap.size + 1 < w2.heap.size := k1.lt
                  have k2_0 : w2.cell? ⟨w1.heap.size, 0, none⟩ = some (.int .i64 gw) := k2.at_ 0 rfl
                  have k2_1 : w2.cell? ⟨w1.heap.size, 1, none⟩ = some (.int .i64 gh) := k2.at_ 1 rfl
                  have k2_2 : w2.cell? ⟨w1.heap.size, 2, none⟩ = some (.slice a1 l.length c1) := k2.at_ 2 rfl
                  have k2_z : w1.heap.size < w2.heap.size := k2.lt
                  have k3_0 : w2.cell? ⟨w1.heap.size + 1, 0, none⟩ = some (.int .i64 gw) := k3.at_ 0 rfl
                  have k3_1 : w2.cell? ⟨w1.heap.size + 1, 1, none⟩ = some (.int .i64 gh) := k3.at_ 1 rfl
                  have k3_2 : w2.cell? ⟨w1.heap.size + 1, 2, none⟩ = some (.slice a2 l.length c2) := k3.at_ 2 rfl
                  have k3_z : w1.heap.size + 1 < w2.heap.size := k3.lt
                  go_wp2_with fail
                  go_at_call 11
                  refine (cut_no _ _ _ _ _ _ _ _ _ _ (by omega) HN.out).mono ?_
                  rintro e w3 ⟨rfl, hb3⟩
                  replace k0 : Blk w3 (W.heap.size) 24 #[.int .i64 sw, .int .i64 sh, .slice a zs.length c, .bool fill] := (k0).below hb3 (by first | omega | (simp; done) | (simp; omega))
                  replace k1 : Blk w3 (W.heap.size + 1) 26 #[.int .i64 X, .int .i64 Y, .int .i64 rw, .int .i64 rh] := (k1).below hb3 (by first | omega | (simp; done) | (simp; omega))
                  replace k2 : Blk w3 (w1.heap.size) 28 #[.int .i64 gw, .int .i64 gh, .slice a1 l.length c1] := (k2).below hb3 (by first | omega | (simp; done) | (simp; omega))
                  replace k3 : Blk w3 (w1.heap.size + 1) 30 #[.int .i64 gw, .int .i64 gh, .slice a2 l.length c2] := (k3).below hb3 (by first | omega | (simp; done) | (simp; omega))
                  replace s1 : SlI w3 .i64 8 l a1 c1 := (s1).below hb3 (by first | omega | (simp; done) | (simp; omega))
                  replace s2 : SlI w3 .i64 8 l a2 c2 := (s2).below hb3 (by first | omega | (simp; done) | (simp; omega))
                  have hB3 : Below W.heap.size W w3 := (hB2).trans (hb3.mono (by first | omega | (simp; done) | (simp; omega)))
                  clear hB2
                  have z3 := hb3.size
                  try simp at z3
                  clear k0_0 k0_1 k0_2 k0_3 k0_z k1_0 k1_1 k1_2 k1_3 k1_z k2_0 k2_1 k2_2 k2_z k3_0 k3_1 k3_2 k3_z
                  have k0_0 : w3.cell? ⟨W.heap.size, 0, none⟩ = some (.int .i64 sw) := k0.at_ 0 rfl
                  have k0_1 : w3.cell? ⟨W.heap.size, 1, none⟩ = some (.int .i64 sh) := k0.at_ 1 rfl
                  have k0_2 : w3.cell? ⟨W.heap.size, 2, none⟩ = some (.slice a zs.length c) := k0.at_ 2 rfl
                  have k0_3 : w3.cell? ⟨W.heap.size, 3, none⟩ = some (.bool fill) := k0.at_ 3 rfl
                  have k0_z : W.heap.size < w3.heap.size := k0.lt
                  have k1_0 : w3.cell? ⟨W.heap.size + 1, 0, none⟩ = some (.int .i64 X) := k1.at_ 0 rfl
                  have k1_1 : w3.cell? ⟨W.heap.size + 1, 1, none⟩ = some (.int .i64 Y) := k1.at_ 1 rfl
                  have k1_2 : w3.cell? ⟨W.heap.size + 1, 2, none⟩ = some (.int .i64 rw) := k1.at_ 2 rfl
                  have k1_3 : w3.cell? ⟨W.heap.size + 1, 3, none⟩ = some (.int .i64 rh) := k1.at_ 3 rfl
                  have k1_z : W.heap.size + 1 < w3.heap.size := k1.lt
                  have k2_0 : w3.cell? ⟨w1.heap.size, 0, none⟩ = some (.int .i64 gw) := k2.at_ 0 rfl
                  have k2_1 : w3.cell? ⟨w1.heap.size, 1, none⟩ = some (.int .i64 gh) := k2.at_ 1 rfl
                  have k2_2 : w3.cell? ⟨w1.heap.size, 2, none⟩ = some (.slice a1 l.length c1) := k2.at_ 2 rfl
                  have k2_z : w1.heap.size < w3.heap.size := k2.lt
                  have k3_0 : w3.cell? ⟨w1.heap.size + 1, 0, none⟩ = some (.int .i64 gw) := k3.at_ 0 rfl
                  have k3_1 : w3.cell? ⟨w1.heap.size + 1, 1, none⟩ = some (.int .i64 gh) := k3.at_ 1 rfl
                  have k3_2 : w3.cell? ⟨w1.heap.size + 1, 2, none⟩ = some (.slice a2 l.length c2) := k3.at_ 2 rfl
                  have k3_z : w1.heap.size + 1 < w3.heap.size := k3.lt
                  go_wp2_with fail
                  go_at_call 12
                  refine (rcut_no _ _ _ _ _ _ _ _ _ _ (by omega) HN.out).mono ?_
                  rintro e w4 ⟨rfl, hb4⟩
                  replace k0 : Blk w4 (W.heap.size) 24 #[.int .i64 sw, .int .i64 sh, .slice a zs.length c, .bool fill] := ((k0.alloc _)).below hb4 (by first | omega | (simp; done) | (simp; omega))
                  replace k1 : Blk w4 (W.heap.size + 1) 26 #[.int .i64 X, .int .i64 Y, .int .i64 rw, .int .i64 rh] := ((k1.alloc _)).below hb4 (by first | omega | (simp; done) | (simp; omega))
                  replace k2 : Blk w4 (w1.heap.size) 28 #[.int .i64 gw, .int .i64 gh, .slice a1 l.length c1] := ((k2.alloc _)).below hb4 (by first | omega | (simp; done) | (simp; omega))
                  replace k3 : Blk w4 (w1.heap.size + 1) 30 #[.int .i64 gw, .int .i64 gh, .slice a2 l.length c2] := ((k3.alloc _)).below hb4 (by first | omega | (simp; done) | (simp; omega))
                  have k4 : Blk w4 (w3.heap.size) 28 #[.int .i64 0, .int .i64 0, .slice none 0 0] := ((Blk.new _ _ _ (by first | rfl | simp))).below hb4 (by first | omega | (simp; done) | (simp; omega))
                  replace s1 : SlI w4 .i64 8 l a1 c1 := ((s1.alloc _)).below hb4 (by first | omega | (simp; done) | (simp; omega))
                  replace s2 : SlI w4 .i64 8 l a2 c2 := ((s2.alloc _)).below hb4 (by first | omega | (simp; done) | (simp; omega))
                  have hB4 : Below W.heap.size W w4 := ((hB3.alloc (by first | omega | (simp; done) | (simp; omega)) _)).trans (hb4.mono (by first | omega | (simp; done) | (simp; omega)))
                  clear hB3
                  have z4 := hb4.size
                  try simp at z4
                  clear k0_0 k0_1 k0_2 k0_3 k0_z k1_0 k1_1 k1_2 k1_3 k1_z k2_0 k2_1 k2_2 k2_z k3_0 k3_1 k3_2 k3_z
                  have k0_0 : w4.cell? ⟨W.heap.size, 0, none⟩ = some (.int .i64 sw) := k0.at_ 0 rfl
                  have k0_1 : w4.cell? ⟨W.heap.size, 1, none⟩ = some (.int .i64 sh) := k0.at_ 1 rfl
                  have k0_2 : w4.cell? ⟨W.heap.size, 2, none⟩ = some (.slice a zs.length c) := k0.at_ 2 rfl
                  have k0_3 : w4.cell? ⟨W.heap.size, 3, none⟩ = some (.bool fill) := k0.at_ 3 rfl
                  have k0_z : W.heap.size < w4.heap.size := k0.lt
                  have k1_0 : w4.cell? ⟨W.heap.size + 1, 0, none⟩ = some (.int .i64 X) := k1.at_ 0 rfl
                  have k1_1 : w4.cell? ⟨W.heap.size + 1, 1, none⟩ = some (.int .i64 Y) := k1.at_ 1 rfl
                  have k1_2 : w4.cell? ⟨W.heap.size + 1, 2, none⟩ = some (.int .i64 rw) := k1.at_ 2 rfl
                  have k1_3 : w4.cell? ⟨W.heap.size + 1, 3, none⟩ = some (.int .i64 rh) := k1.at_ 3 rfl
                  have k1_z : W.heap.size + 1 < w4.heap.size := k1.lt
                  have k2_0 : w4.cell? ⟨w1.heap.size, 0, none⟩ = some (.int .i64 gw) := k2.at_ 0 rfl
                  have k2_1 : w4.cell? ⟨w1.heap.size, 1, none⟩ = some (.int .i64 gh) := k2.at_ 1 rfl
                  have k2_2 : w4.cell? ⟨w1.heap.size, 2, none⟩ = some (.slice a1 l.length c1) := k2.at_ 2 rfl
                  have k2_z : w1.heap.size < w4.heap.size := k2.lt
                  have k3_0 : w4.cell? ⟨w1.heap.size + 1, 0, none⟩ = some (.int .i64 gw) := k3.at_ 0 rfl
                  have k3_1 : w4.cell? ⟨w1.heap.size + 1, 1, none⟩ = some (.int .i64 gh) := k3.at_ 1 rfl
                  have k3_2 : w4.cell? ⟨w1.heap.size + 1, 2, none⟩ = some (.slice a2 l.length c2) := k3.at_ 2 rfl
                  have k3_z : w1.heap.size + 1 < w4.heap.size := k3.lt
                  have k4_0 : w4.cell? ⟨w3.heap.size, 0, none⟩ = some (.int .i64 0) := k4.at_ 0 rfl
                  have k4_1 : w4.cell? ⟨w3.heap.size, 1, none⟩ = some (.int .i64 0) := k4.at_ 1 rfl
                  have k4_2 : w4.cell? ⟨w3.heap.size, 2, none⟩ = some (.slice none 0 0) := k4.at_ 2 rfl
                  have k4_z : w3.heap.size < w4.heap.size := k4.lt
                  go_wp2_with fail
                  go_at_call 13
                  refine (like_any _ _ _ _ _ [] [] _ _ _ _ (SlI.nil _ _ _) (SlI.nil _ _ _) true (by decide)).mono ?_
                  rintro e w5 ⟨rfl, hb5⟩
                  replace k0 : Blk w5 (W.heap.size) 24 #[.int .i64 sw, .int .i64 sh, .slice a zs.length c, .bool fill] := ((k0.alloc _)).below hb5 (by first | omega | (simp; done) | (simp; omega))
                  replace k1 : Blk w5 (W.heap.size + 1) 26 #[.int .i64 X, .int .i64 Y, .int .i64 rw, .int .i64 rh] := ((k1.alloc _)).below hb5 (by first | omega | (simp; done) | (simp; omega))
                  replace k2 : Blk w5 (w1.heap.size) 28 #[.int .i64 gw, .int .i64 gh, .slice a1 l.length c1] := ((k2.alloc _)).below hb5 (by first | omega | (simp; done) | (simp; omega))
                  replace k3 : Blk w5 (w1.heap.size + 1) 30 #[.int .i64 gw, .int .i64 gh, .slice a2 l.length c2] := ((k3.alloc _)).below hb5 (by first | omega | (simp; done) | (simp; omega))
                  replace k4 : Blk w5 (w3.heap.size) 28 #[.int .i64 0, .int .i64 0, .slice none 0 0] := ((k4.alloc _)).below hb5 (by first | omega | (simp; done) | (simp; omega))
                  have k5 : Blk w5 (w4.heap.size) 30 #[.int .i64 0, .int .i64 0, .slice none 0 0] := ((Blk.new _ _ _ (by first | rfl | simp))).below hb5 (by first | omega | (simp; done) | (simp; omega))
                  replace s1 : SlI w5 .i64 8 l a1 c1 := ((s1.alloc _)).below hb5 (by first | omega | (simp; done) | (simp; omega))
                  replace s2 : SlI w5 .i64 8 l a2 c2 := ((s2.alloc _)).below hb5 (by first | omega | (simp; done) | (simp; omega))
                  have hB5 : Below W.heap.size W w5 := ((hB4.alloc (by first | omega | (simp; done) | (simp; omega)) _)).trans (hb5.mono (by first | omega | (simp; done) | (simp; omega)))
                  clear hB4
                  have z5 := hb5.size
                  try simp at z5
                  clear k0_0 k0_1 k0_2 k0_3 k0_z k1_0 k1_1 k1_2 k1_3 k1_z k2_0 k2_1 k2_2 k2_z k3_0 k3_1 k3_2 k3_z k4_0 k4_1 k4_2 k4_z
                  have k0_0 : w5.cell? ⟨W.heap.size, 0, none⟩ = some (.int .i64 sw) := k0.at_ 0 rfl
                  have k0_1 : w5.cell? ⟨W.heap.size, 1, none⟩ = some (.int .i64 sh) := k0.at_ 1 rfl
                  have k0_2 : w5.cell? ⟨W.heap.size, 2, none⟩ = some (.slice a zs.length c) := k0.at_ 2 rfl
                  have k0_3 : w5.cell? ⟨W.heap.size, 3, none⟩ = some (.bool fill) := k0.at_ 3 rfl
                  have k0_z : W.heap.size < w5.heap.size := k0.lt
                  have k1_0 : w5.cell? ⟨W.heap.size + 1, 0, none⟩ = some (.int .i64 X) := k1.at_ 0 rfl
                  have k1_1 : w5.cell? ⟨W.heap.size + 1, 1, none⟩ = some (.int .i64 Y) := k1.at_ 1 rfl
                  have k1_2 : w5.cell? ⟨W.heap.size + 1, 2, none⟩ = some (.int .i64 rw) := k1.at_ 2 rfl
                  have k1_3 : w5.cell? ⟨W.heap.size + 1, 3, none⟩ = some (.int .i64 rh) := k1.at_ 3 rfl
                  have k1_z : W.heap.size + 1 < w5.heap.size := k1.lt
                  have k2_0 : w5.cell? ⟨w1.heap.size, 0, none⟩ = some (.int .i64 gw) := k2.at_ 0 rfl
                  have k2_1 : w5.cell? ⟨w1.heap.size, 1, none⟩ = some (.int .i64 gh) := k2.at_ 1 rfl
                  have k2_2 : w5.cell? ⟨w1.heap.size, 2, none⟩ = some (.slice a1 l.length c1) := k2.at_ 2 rfl
                  have k2_z : w1.heap.size < w5.heap.size := k2.lt
                  have k3_0 : w5.cell? ⟨w1.heap.size + 1, 0, none⟩ = some (.int .i64 gw) := k3.at_ 0 rfl
                  have k3_1 : w5.cell? ⟨w1.heap.size + 1, 1, none⟩ = some (.int .i64 gh) := k3.at_ 1 rfl
                  have k3_2 : w5.cell? ⟨w1.heap.size + 1, 2, none⟩ = some (.slice a2 l.length c2) := k3.at_ 2 rfl
                  have k3_z : w1.heap.size + 1 < w5.heap.size := k3.lt
                  have k4_0 : w5.cell? ⟨w3.heap.size, 0, none⟩ = some (.int .i64 0) := k4.at_ 0 rfl
                  have k4_1 : w5.cell? ⟨w3.heap.size, 1, none⟩ = some (.int .i64 0) := k4.at_ 1 rfl
                  have k4_2 : w5.cell? ⟨w3.heap.size, 2, none⟩ = some (.slice none 0 0) := k4.at_ 2 rfl
                  have k4_z : w3.heap.size < w5.heap.size := k4.lt
                  have k5_0 : w5.cell? ⟨w4.heap.size, 0, none⟩ = some (.int .i64 0) := k5.at_ 0 rfl
                  have k5_1 : w5.cell? ⟨w4.heap.size, 1, none⟩ = some (.int .i64 0) := k5.at_ 1 rfl
                  have k5_2 : w5.cell? ⟨w4.heap.size, 2, none⟩ = some (.slice none 0 0) := k5.at_ 2 rfl
                  have k5_z : w4.heap.size < w5.heap.size := k5.lt
                  go_wp2
                  refine wp_loop_rounds 1 ?_
                  rw [rounds_succ]
                  go_wp2_with fail
                  go_at_call 13
                  refine (like_any _ _ _ _ _ _ _ _ _ _ _ s1 s2 true (by simp)).mono ?_
                  rintro e w6 ⟨rfl, hb6⟩
                  replace k0 : Blk w6 (W.heap.size) 24 #[.int .i64 sw, .int .i64 sh, .slice a zs.length c, .bool fill] := (k0).below hb6 (by first | omega | (simp; done) | (simp; omega))
                  replace k1 : Blk w6 (W.heap.size + 1) 26 #[.int .i64 X, .int .i64 Y, .int .i64 rw, .int .i64 rh] := (k1).below hb6 (by first | omega | (simp; done) | (simp; omega))
                  replace k2 : Blk w6 (w1.heap.size) 28 #[.int .i64 gw, .int .i64 gh, .slice a1 l.length c1] := (k2).below hb6 (by first | omega | (simp; done) | (simp; omega))
                  replace k3 : Blk w6 (w1.heap.size + 1) 30 #[.int .i64 gw, .int .i64 gh, .slice a2 l.length c2] := (k3).below hb6 (by first | omega | (simp; done) | (simp; omega))
                  replace k4 : Blk w6 (w3.heap.size) 28 #[.int .i64 0, .int .i64 0, .slice none 0 0] := (k4).below hb6 (by first | omega | (simp; done) | (simp; omega))
                  replace k5 : Blk w6 (w4.heap.size) 30 #[.int .i64 0, .int .i64 0, .slice none 0 0] := (k5).below hb6 (by first | omega | (simp; done) | (simp; omega))
                  replace s1 : SlI w6 .i64 8 l a1 c1 := (s1).below hb6 (by first | omega | (simp; done) | (simp; omega))
                  replace s2 : SlI w6 .i64 8 l a2 c2 := (s2).below hb6 (by first | omega | (simp; done) | (simp; omega))
                  have hB6 : Below W.heap.size W w6 := (hB5).trans (hb6.mono (by first | omega | (simp; done) | (simp; omega)))
                  clear hB5
                  have z6 := hb6.size
                  try simp at z6
                  clear k0_0 k0_1 k0_2 k0_3 k0_z k1_0 k1_1 k1_2 k1_3 k1_z k2_0 k2_1 k2_2 k2_z k3_0 k3_1 k3_2 k3_z k4_0 k4_1 k4_2 k4_z k5_0 k5_1 k5_2 k5_z
                  have k0_0 : w6.cell? ⟨W.heap.size, 0, none⟩ = some (.int .i64 sw) := k0.at_ 0 rfl
                  have k0_1 : w6.cell? ⟨W.heap.size, 1, none⟩ = some (.int .i64 sh) := k0.at_ 1 rfl
                  have k0_2 : w6.cell? ⟨W.heap.size, 2, none⟩ = some (.slice a zs.length c) := k0.at_ 2 rfl
                  have k0_3 : w6.cell? ⟨W.heap.size, 3, none⟩ = some (.bool fill) := k0.at_ 3 rfl
                  have k0_z : W.heap.size < w6.heap.size := k0.lt
                  have k1_0 : w6.cell? ⟨W.heap.size + 1, 0, none⟩ = some (.int .i64 X) := k1.at_ 0 rfl
                  have k1_1 : w6.cell? ⟨W.heap.size + 1, 1, none⟩ = some (.int .i64 Y) := k1.at_ 1 rfl
                  have k1_2 : w6.cell? ⟨W.heap.size + 1, 2, none⟩ = some (.int .i64 rw) := k1.at_ 2 rfl
                  have k1_3 : w6.cell? ⟨W.heap.size + 1, 3, none⟩ = some (.int .i64 rh) := k1.at_ 3 rfl
                  have k1_z : W.heap.size + 1 < w6.heap.size := k1.lt
                  have k2_0 : w6.cell? ⟨w1.heap.size, 0, none⟩ = some (.int .i64 gw) := k2.at_ 0 rfl
                  have k2_1 : w6.cell? ⟨w1.heap.size, 1, none⟩ = some (.int .i64 gh) := k2.at_ 1 rfl
                  have k2_2 : w6.cell? ⟨w1.heap.size, 2, none⟩ = some (.slice a1 l.length c1) := k2.at_ 2 rfl
                  have k2_z : w1.heap.size < w6.heap.size := k2.lt
                  have k3_0 : w6.cell? ⟨w1.heap.size + 1, 0, none⟩ = some (.int .i64 gw) := k3.at_ 0 rfl
                  have k3_1 : w6.cell? ⟨w1.heap.size + 1, 1, none⟩ = some (.int .i64 gh) := k3.at_ 1 rfl
                  have k3_2 : w6.cell? ⟨w1.heap.size + 1, 2, none⟩ = some (.slice a2 l.length c2) := k3.at_ 2 rfl
                  have k3_z : w1.heap.size + 1 < w6.heap.size := k3.lt
                  have k4_0 : w6.cell? ⟨w3.heap.size, 0, none⟩ = some (.int .i64 0) := k4.at_ 0 rfl
                  have k4_1 : w6.cell? ⟨w3.heap.size, 1, none⟩ = some (.int .i64 0) := k4.at_ 1 rfl
                  have k4_2 : w6.cell? ⟨w3.heap.size, 2, none⟩ = some (.slice none 0 0) := k4.at_ 2 rfl
                  have k4_z : w3.heap.size < w6.heap.size := k4.lt
                  have k5_0 : w6.cell? ⟨w4.heap.size, 0, none⟩ = some (.int .i64 0) := k5.at_ 0 rfl
                  have k5_1 : w6.cell? ⟨w4.heap.size, 1, none⟩ = some (.int .i64 0) := k5.at_ 1 rfl
                  have k5_2 : w6.cell? ⟨w4.heap.size, 2, none⟩ = some (.slice none 0 0) := k5.at_ 2 rfl
                  have k5_z : w4.heap.size < w6.heap.size := k5.lt
                  go_wp2
                  go_ret
                  exact ⟨rfl, hB6⟩
                | true =>
                  have HF := Lib.hid (by simpa using hn : fitsB rw rh = true ∧ hasB gw gh l.length X Y = true).1
                  have HH := Lib.hid (by simpa using hn : fitsB rw rh = true ∧ hasB gw gh l.length X Y = true).2
                  clear hn
                  go_wp2_with fail
                  go_at_call 10
                  refine (lives_ok _).mono ?_
                  rintro e w2 ⟨rfl, hb2⟩
                  replace k0 : Blk w2 (W.heap.size) 24 #[.int .i64 sw, .int .i64 sh, .slice a zs.length c, .bool fill] := (((k0.alloc _).alloc _)).below hb2 (by first | omega | (simp; done) | (simp; omega))
                  replace k1 : Blk w2 (W.heap.size + 1) 26 #[.int .i64 X, .int .i64 Y, .int .i64 rw, .int .i64 rh] := (((k1.alloc _).alloc _)).below hb2 (by first | omega | (simp; done) | (simp; omega))
                  have k2 : Blk w2 (w1.heap.size) 28 #[.int .i64 gw, .int .i64 gh, .slice a1 l.length c1] := (((Blk.new _ _ _ (by first | rfl | simp)).alloc _)).below hb2 (by first | omega | (simp; done) | (simp; omega))
                  have k3 : Blk w2 (w1.heap.size + 1) 30 #[.int .i64 gw, .int .i64 gh, .slice a2 l.length c2] := ((Blk.new _ _ _ (by first | rfl | simp))).below hb2 (by first | omega | (simp; done) | (simp; omega))
                  replace s1 : SlI w2 .i64 8 l a1 c1 := (((s1.alloc _).alloc _)).below hb2 (by first | omega | (simp; done) | (simp; omega))
                  replace s2 : SlI w2 .i64 8 l a2 c2 := (((s2.alloc _).alloc _)).below hb2 (by first | omega | (simp; done) | (simp; omega))
                  have hB2 : Below W.heap.size W w2 := (((hB1.alloc (by first | omega | (simp; done) | (simp; omega)) _).alloc (by first | omega | (simp; done) | (simp; omega)) _)).trans (hb2.mono (by first | omega | (simp; done) | (simp; omega)))
                  clear hB1
                  have z2 := hb2.size
                  try simp at z2
                  clear k0_0 k0_1 k0_2 k0_3 k0_z k1_0 k1_1 k1_2 k1_3 k1_z
                  have k0_0 : w2.cell? ⟨W.heap.size, 0, none⟩ = some (.int .i64 sw) := k0.at_ 0 rfl
                  have k0_1 : w2.cell? ⟨W.heap.size, 1, none⟩ = some (.int .i64 sh) := k0.at_ 1 rfl
                  have k0_2 : w2.cell? ⟨W.heap.size, 2, none⟩ = some (.slice a zs.length c) := k0.at_ 2 rfl
                  have k0_3 : w2.cell? ⟨W.heap.size, 3, none⟩ = some (.bool fill) := k0.at_ 3 rfl
                  have k0_z : W.heap.size < w2.heap.size := k0.lt
                  have k1_0 : w2.cell? ⟨W.heap.size + 1, 0, none⟩ = some (.int .i64 X) := k1.at_ 0 rfl
                  have k1_1 : w2.cell? ⟨W.heap.size + 1, 1, none⟩ = some (.int .i64 Y) := k1.at_ 1 rfl
                  have k1_2 : w2.cell? ⟨W.heap.size + 1, 2, none⟩ = some (.int .i64 rw) := k1.at_ 2 rfl
                  have k1_3 : w2.cell? ⟨W.heap.size + 1, 3, none⟩ = some (.int .i64 rh) := k1.at_ 3 rfl
                  have k1_z : W.heap.size + 1 < w2.heap.size := k1.lt
                  have k2_0 : w2.cell? ⟨w1.heap.size, 0, none⟩ = some (.int .i64 gw) := k2.at_ 0 rfl
                  have k2_1 : w2.cell? ⟨w1.heap.size, 1, none⟩ = some (.int .i64 gh) := k2.at_ 1 rfl
                  have k2_2 : w2.cell? ⟨w1.heap.size, 2, none⟩ = some (.slice a1 l.length c1) := k2.at_ 2 rfl
                  have k2_z : w1.heap.size < w2.heap.size := k2.lt
                  have k3_0 : w2.cell? ⟨w1.heap.size + 1, 0, none⟩ = some (.int .i64 gw) := k3.at_ 0 rfl
                  have k3_1 : w2.cell? ⟨w1.heap.size + 1, 1, none⟩ = some (.int .i64 gh) := k3.at_ 1 rfl
                  have k3_2 : w2.cell? ⟨w1.heap.size + 1, 2, none⟩ = some (.slice a2 l.length c2) := k3.at_ 2 rfl
                  have k3_z : w1.heap.size + 1 < w2.heap.size := k3.lt
                  have T1 := Lib.hid s1
                  have T2 := Lib.hid s2
                  obtain ⟨n, hn⟩ : ∃ n : Nat, rw * rh = (n : Int) := Int.eq_ofNat_of_zero_le (Int.mul_nonneg ((fitsB_iff _ _).1 HF.out).1 ((fitsB_iff _ _).1 HF.out).2.1)
                  have HNN := Lib.hid hn
                  have hn2 : n ≤ 4194304 := by have := ((fitsB_iff _ _).1 HF.out).2.2.2.2; omega
                  clear hn
                  go_wp2_with fail
                  go_at_call 11
                  refine (cut_yes _ _ _ _ _ _ _ _ _ _ n s1 HF.out HH.out HNN.out).mono ?_
                  rintro e w3 ⟨v, rfl, ho, hb3⟩
                  replace k0 : Blk w3 (W.heap.size) 24 #[.int .i64 sw, .int .i64 sh, .slice a zs.length c, .bool fill] := (k0).below hb3 (by first | omega | (simp; done) | (simp; omega))
                  replace k1 : Blk w3 (W.heap.size + 1) 26 #[.int .i64 X, .int .i64 Y, .int .i64 rw, .int .i64 rh] := (k1).below hb3 (by first | omega | (simp; done) | (simp; omega))
                  replace k2 : Blk w3 (w1.heap.size) 28 #[.int .i64 gw, .int .i64 gh, .slice a1 l.length c1] := (k2).below hb3 (by first | omega | (simp; done) | (simp; omega))
                  replace k3 : Blk w3 (w1.heap.size + 1) 30 #[.int .i64 gw, .int .i64 gh, .slice a2 l.length c2] := (k3).below hb3 (by first | omega | (simp; done) | (simp; omega))
                  replace s1 : SlI w3 .i64 8 l a1 c1 := (s1).below hb3 (by first | omega | (simp; done) | (simp; omega))
                  replace s2 : SlI w3 .i64 8 l a2 c2 := (s2).below hb3 (by first | omega | (simp; done) | (simp; omega))
                  have hB3 : Below W.heap.size W w3 := (hB2).trans (hb3.mono (by first | omega | (simp; done) | (simp; omega)))
                  clear hB2
                  have z3 := hb3.size
                  try simp at z3
                  clear k0_0 k0_1 k0_2 k0_3 k0_z k1_0 k1_1 k1_2 k1_3 k1_z k2_0 k2_1 k2_2 k2_z k3_0 k3_1 k3_2 k3_z
                  have k0_0 : w3.cell? ⟨W.heap.size, 0, none⟩ = some (.int .i64 sw) := k0.at_ 0 rfl
                  have k0_1 : w3.cell? ⟨W.heap.size, 1, none⟩ = some (.int .i64 sh) := k0.at_ 1 rfl
                  have k0_2 : w3.cell? ⟨W.heap.size, 2, none⟩ = some (.slice a zs.length c) := k0.at_ 2 rfl
                  have k0_3 : w3.cell? ⟨W.heap.size, 3, none⟩ = some (.bool fill) := k0.at_ 3 rfl
                  have k0_z : W.heap.size < w3.heap.size := k0.lt
                  have k1_0 : w3.cell? ⟨W.heap.size + 1, 0, none⟩ = some (.int .i64 X) := k1.at_ 0 rfl
                  have k1_1 : w3.cell? ⟨W.heap.size + 1, 1, none⟩ = some (.int .i64 Y) := k1.at_ 1 rfl
                  have k1_2 : w3.cell? ⟨W.heap.size + 1, 2, none⟩ = some (.int .i64 rw) := k1.at_ 2 rfl
                  have k1_3 : w3.cell? ⟨W.heap.size + 1, 3, none⟩ = some (.int .i64 rh) := k1.at_ 3 rfl
                  have k1_z : W.heap.size + 1 < w3.heap.size := k1.lt
                  have k2_0 : w3.cell? ⟨w1.heap.size, 0, none⟩ = some (.int .i64 gw) := k2.at_ 0 rfl
                  have k2_1 : w3.cell? ⟨w1.heap.size, 1, none⟩ = some (.int .i64 gh) := k2.at_ 1 rfl
                  have k2_2 : w3.cell? ⟨w1.heap.size, 2, none⟩ = some (.slice a1 l.length c1) := k2.at_ 2 rfl
                  have k2_z : w1.heap.size < w3.heap.size := k2.lt
                  have k3_0 : w3.cell? ⟨w1.heap.size + 1, 0, none⟩ = some (.int .i64 gw) := k3.at_ 0 rfl
                  have k3_1 : w3.cell? ⟨w1.heap.size + 1, 1, none⟩ = some (.int .i64 gh) := k3.at_ 1 rfl
                  have k3_2 : w3.cell? ⟨w1.heap.size + 1, 2, none⟩ = some (.slice a2 l.length c2) := k3.at_ 2 rfl
                  have k3_z : w1.heap.size + 1 < w3.heap.size := k3.lt
                  obtain ⟨L, hL⟩ : ∃ L, L = cutL gw gh X Y rw n l := ⟨_, rfl⟩
                  have hLn : L.length = n := by rw [hL, cutL_len]
                  rw [← hL] at ho
                  have HL := Lib.hid hL
                  clear hL
                  obtain ⟨a3, c3, hv, _, _⟩ := ho.form
                  subst hv
                  have HG3 := Lib.hid ho.lt
                  have hLl : L.length ≤ 4194304 := by omega
                  clear hLn
                  go_wp2_with fail
                  go_at_call 12
                  refine (rcut_yes _ _ _ _ _ _ _ _ _ _ n ((s2.alloc _)) HF.out HH.out HNN.out).mono ?_
                  rintro e w4 ⟨v2, rfl, ho2, hb4⟩
                  replace k0 : Blk w4 (W.heap.size) 24 #[.int .i64 sw, .int .i64 sh, .slice a zs.length c, .bool fill] := ((k0.alloc _)).below hb4 (by first | omega | (simp; done) | (simp; omega))
                  replace k1 : Blk w4 (W.heap.size + 1) 26 #[.int .i64 X, .int .i64 Y, .int .i64 rw, .int .i64 rh] := ((k1.alloc _)).below hb4 (by first | omega | (simp; done) | (simp; omega))
                  replace k2 : Blk w4 (w1.heap.size) 28 #[.int .i64 gw, .int .i64 gh, .slice a1 l.length c1] := ((k2.alloc _)).below hb4 (by first | omega | (simp; done) | (simp; omega))
                  replace k3 : Blk w4 (w1.heap.size + 1) 30 #[.int .i64 gw, .int .i64 gh, .slice a2 l.length c2] := ((k3.alloc _)).below hb4 (by first | omega | (simp; done) | (simp; omega))
                  have k4 : Blk w4 (w3.heap.size) 28 #[.int .i64 rw, .int .i64 rh, .slice a3 L.length c3] := ((Blk.new _ _ _ (by first | rfl | simp))).below hb4 (by first | omega | (simp; done) | (simp; omega))
                  replace s1 : SlI w4 .i64 8 l a1 c1 := ((s1.alloc _)).below hb4 (by first | omega | (simp; done) | (simp; omega))
                  replace s2 : SlI w4 .i64 8 l a2 c2 := ((s2.alloc _)).below hb4 (by first | omega | (simp; done) | (simp; omega))
                  replace ho : OwI w4 (w2.heap.size) 3 .i64 L (.slice a3 L.length c3) := ((ho.alloc _)).keep hb4 (by first | omega | (simp; done) | (simp; omega))
                  have hB4 : Below W.heap.size W w4 := ((hB3.alloc (by first | omega | (simp; done) | (simp; omega)) _)).trans (hb4.mono (by first | omega | (simp; done) | (simp; omega)))
                  clear hB3
                  have z4 := hb4.size
                  try simp at z4
                  clear k0_0 k0_1 k0_2 k0_3 k0_z k1_0 k1_1 k1_2 k1_3 k1_z k2_0 k2_1 k2_2 k2_z k3_0 k3_1 k3_2 k3_z
                  have k0_0 : w4.cell? ⟨W.heap.size, 0, none⟩ = some (.int .i64 sw) := k0.at_ 0 rfl
                  have k0_1 : w4.cell? ⟨W.heap.size, 1, none⟩ = some (.int .i64 sh) := k0.at_ 1 rfl
                  have k0_2 : w4.cell? ⟨W.heap.size, 2, none⟩ = some (.slice a zs.length c) := k0.at_ 2 rfl
                  have k0_3 : w4.cell? ⟨W.heap.size, 3, none⟩ = some (.bool fill) := k0.at_ 3 rfl
                  have k0_z : W.heap.size < w4.heap.size := k0.lt
                  have k1_0 : w4.cell? ⟨W.heap.size + 1, 0, none⟩ = some (.int .i64 X) := k1.at_ 0 rfl
                  have k1_1 : w4.cell? ⟨W.heap.size + 1, 1, none⟩ = some (.int .i64 Y) := k1.at_ 1 rfl
                  have k1_2 : w4.cell? ⟨W.heap.size + 1, 2, none⟩ = some (.int .i64 rw) := k1.at_ 2 rfl
                  have k1_3 : w4.cell? ⟨W.heap.size + 1, 3, none⟩ = some (.int .i64 rh) := k1.at_ 3 rfl
                  have k1_z : W.heap.size + 1 < w4.heap.size := k1.lt
                  have k2_0 : w4.cell? ⟨w1.heap.size, 0, none⟩ = some (.int .i64 gw) := k2.at_ 0 rfl
                  have k2_1 : w4.cell? ⟨w1.heap.size, 1, none⟩ = some (.int .i64 gh) := k2.at_ 1 rfl
                  have k2_2 : w4.cell? ⟨w1.heap.size, 2, none⟩ = some (.slice a1 l.length c1) := k2.at_ 2 rfl
                  have k2_z : w1.heap.size < w4.heap.size := k2.lt
                  have k3_0 : w4.cell? ⟨w1.heap.size + 1, 0, none⟩ = some (.int .i64 gw) := k3.at_ 0 rfl
                  have k3_1 : w4.cell? ⟨w1.heap.size + 1, 1, none⟩ = some (.int .i64 gh) := k3.at_ 1 rfl
                  have k3_2 : w4.cell? ⟨w1.heap.size + 1, 2, none⟩ = some (.slice a2 l.length c2) := k3.at_ 2 rfl
                  have k3_z : w1.heap.size + 1 < w4.heap.size := k3.lt
                  have k4_0 : w4.cell? ⟨w3.heap.size, 0, none⟩ = some (.int .i64 rw) := k4.at_ 0 rfl
                  have k4_1 : w4.cell? ⟨w3.heap.size, 1, none⟩ = some (.int .i64 rh) := k4.at_ 1 rfl
                  have k4_2 : w4.cell? ⟨w3.heap.size, 2, none⟩ = some (.slice a3 L.length c3) := k4.at_ 2 rfl
                  have k4_z : w3.heap.size < w4.heap.size := k4.lt
                  rw [← HL.out] at ho2
                  obtain ⟨a4, c4, hv2, _, _⟩ := ho2.form
                  subst hv2
                  have sa := ho.sl (bytes := 8) (by omega)
                  have sb := ho2.sl (bytes := 8) (by omega)
                  have HSA := Lib.hid sa
                  have HSB := Lib.hid sb
                  clear sa sb ho2
                  go_wp2_with fail
                  go_at_call 13
                  refine (like_any _ _ _ _ _ L L _ _ _ _ (HSA.out.alloc _) (HSB.out.alloc _) true (by simp)).mono ?_
                  rintro e w5 ⟨rfl, hb5⟩
                  replace k0 : Blk w5 (W.heap.size) 24 #[.int .i64 sw, .int .i64 sh, .slice a zs.length c, .bool fill] := ((k0.alloc _)).below hb5 (by first | omega | (simp; done) | (simp; omega))
                  replace k1 : Blk w5 (W.heap.size + 1) 26 #[.int .i64 X, .int .i64 Y, .int .i64 rw, .int .i64 rh] := ((k1.alloc _)).below hb5 (by first | omega | (simp; done) | (simp; omega))
                  replace k2 : Blk w5 (w1.heap.size) 28 #[.int .i64 gw, .int .i64 gh, .slice a1 l.length c1] := ((k2.alloc _)).below hb5 (by first | omega | (simp; done) | (simp; omega))
                  replace k3 : Blk w5 (w1.heap.size + 1) 30 #[.int .i64 gw, .int .i64 gh, .slice a2 l.length c2] := ((k3.alloc _)).below hb5 (by first | omega | (simp; done) | (simp; omega))
                  replace k4 : Blk w5 (w3.heap.size) 28 #[.int .i64 rw, .int .i64 rh, .slice a3 L.length c3] := ((k4.alloc _)).below hb5 (by first | omega | (simp; done) | (simp; omega))
                  have k5 : Blk w5 (w4.heap.size) 30 #[.int .i64 rw, .int .i64 rh, .slice a4 L.length c4] := ((Blk.new _ _ _ (by first | rfl | simp))).below hb5 (by first | omega | (simp; done) | (simp; omega))
                  replace s1 : SlI w5 .i64 8 l a1 c1 := ((s1.alloc _)).below hb5 (by first | omega | (simp; done) | (simp; omega))
                  replace s2 : SlI w5 .i64 8 l a2 c2 := ((s2.alloc _)).below hb5 (by first | omega | (simp; done) | (simp; omega))
                  replace ho : OwI w5 (w2.heap.size) 3 .i64 L (.slice a3 L.length c3) := ((ho.alloc _)).keep hb5 (by first | omega | (simp; done) | (simp; omega))
                  have hB5 : Below W.heap.size W w5 := ((hB4.alloc (by first | omega | (simp; done) | (simp; omega)) _)).trans (hb5.mono (by first | omega | (simp; done) | (simp; omega)))
                  clear hB4
                  have z5 := hb5.size
                  try simp at z5
                  clear k0_0 k0_1 k0_2 k0_3 k0_z k1_0 k1_1 k1_2 k1_3 k1_z k2_0 k2_1 k2_2 k2_z k3_0 k3_1 k3_2 k3_z k4_0 k4_1 k4_2 k4_z
                  have k0_0 : w5.cell? ⟨W.heap.size, 0, none⟩ = some (.int .i64 sw) := k0.at_ 0 rfl
                  have k0_1 : w5.cell? ⟨W.heap.size, 1, none⟩ = some (.int .i64 sh) := k0.at_ 1 rfl
                  have k0_2 : w5.cell? ⟨W.heap.size, 2, none⟩ = some (.slice a zs.length c) := k0.at_ 2 rfl
                  have k0_3 : w5.cell? ⟨W.heap.size, 3, none⟩ = some (.bool fill) := k0.at_ 3 rfl
                  have k0_z : W.heap.size < w5.heap.size := k0.lt
                  have k1_0 : w5.cell? ⟨W.heap.size + 1, 0, none⟩ = some (.int .i64 X) := k1.at_ 0 rfl
                  have k1_1 : w5.cell? ⟨W.heap.size + 1, 1, none⟩ = some (.int .i64 Y) := k1.at_ 1 rfl
                  have k1_2 : w5.cell? ⟨W.heap.size + 1, 2, none⟩ = some (.int .i64 rw) := k1.at_ 2 rfl
                  have k1_3 : w5.cell? ⟨W.heap.size + 1, 3, none⟩ = some (.int .i64 rh) := k1.at_ 3 rfl
                  have k1_z : W.heap.size + 1 < w5.heap.size := k1.lt
                  have k2_0 : w5.cell? ⟨w1.heap.size, 0, none⟩ = some (.int .i64 gw) := k2.at_ 0 rfl
                  have k2_1 : w5.cell? ⟨w1.heap.size, 1, none⟩ = some (.int .i64 gh) := k2.at_ 1 rfl
                  have k2_2 : w5.cell? ⟨w1.heap.size, 2, none⟩ = some (.slice a1 l.length c1) := k2.at_ 2 rfl
                  have k2_z : w1.heap.size < w5.heap.size := k2.lt
                  have k3_0 : w5.cell? ⟨w1.heap.size + 1, 0, none⟩ = some (.int .i64 gw) := k3.at_ 0 rfl
                  have k3_1 : w5.cell? ⟨w1.heap.size + 1, 1, none⟩ = some (.int .i64 gh) := k3.at_ 1 rfl
                  have k3_2 : w5.cell? ⟨w1.heap.size + 1, 2, none⟩ = some (.slice a2 l.length c2) := k3.at_ 2 rfl
                  have k3_z : w1.heap.size + 1 < w5.heap.size := k3.lt
                  have k4_0 : w5.cell? ⟨w3.heap.size, 0, none⟩ = some (.int .i64 rw) := k4.at_ 0 rfl
                  have k4_1 : w5.cell? ⟨w3.heap.size, 1, none⟩ = some (.int .i64 rh) := k4.at_ 1 rfl
                  have k4_2 : w5.cell? ⟨w3.heap.size, 2, none⟩ = some (.slice a3 L.length c3) := k4.at_ 2 rfl
                  have k4_z : w3.heap.size < w5.heap.size := k4.lt
                  have k5_0 : w5.cell? ⟨w4.heap.size, 0, none⟩ = some (.int .i64 rw) := k5.at_ 0 rfl
                  have k5_1 : w5.cell? ⟨w4.heap.size, 1, none⟩ = some (.int .i64 rh) := k5.at_ 1 rfl
                  have k5_2 : w5.cell? ⟨w4.heap.size, 2, none⟩ = some (.slice a4 L.length c4) := k5.at_ 2 rfl
                  have k5_z : w4.heap.size < w5.heap.size := k5.lt
                  have hb25 : Below w2.heap.size w2 w5 := by repeat (first | exact Below.refl _ _ | refine Below.drew ?_ | refine below_drewN ?_ _ | (refine Below.alloc ?_ (by first | (simp; done) | omega | (simp; omega)) _) | (refine Below.setCell ?_ (by first | (simp; done) | omega | (simp; omega)) _) | (refine Below.trans ?_ (hb5.mono (by first | (simp; done) | omega | (simp; omega)))) | (refine Below.trans ?_ (hb4.mono (by first | (simp; done) | omega | (simp; omega)))) | (refine Below.trans ?_ (hb3.mono (by first | (simp; done) | omega | (simp; omega)))))
                  by_cases hl0 : L.length = 0
                  · have hl0' : L.length ≤ 0 := by omega
                    go_wp2
                    refine wp_loop_rounds 1 ?_
                    rw [rounds_succ]
                    go_wp2_with fail
                    go_at_call 13
                    refine (like_any _ _ _ _ _ _ _ _ _ _ _ s1 s2 true (by simp)).mono ?_
                    rintro e w6 ⟨rfl, hb6⟩
                    replace k0 : Blk w6 (W.heap.size) 24 #[.int .i64 sw, .int .i64 sh, .slice a zs.length c, .bool fill] := (k0).below hb6 (by first | omega | (simp; done) | (simp; omega))
                    replace k1 : Blk w6 (W.heap.size + 1) 26 #[.int .i64 X, .int .i64 Y, .int .i64 rw, .int .i64 rh] := (k1).below hb6 (by first | omega | (simp; done) | (simp; omega))
                    replace k2 : Blk w6 (w1.heap.size) 28 #[.int .i64 gw, .int .i64 gh, .slice a1 l.length c1] := (k2).below hb6 (by first | omega | (simp; done) | (simp; omega))
                    replace k3 : Blk w6 (w1.heap.size + 1) 30 #[.int .i64 gw, .int .i64 gh, .slice a2 l.length c2] := (k3).below hb6 (by first | omega | (simp; done) | (simp; omega))
                    replace k4 : Blk w6 (w3.heap.size) 28 #[.int .i64 rw, .int .i64 rh, .slice a3 L.length c3] := (k4).below hb6 (by first | omega | (simp; done) | (simp; omega))
                    replace k5 : Blk w6 (w4.heap.size) 30 #[.int .i64 rw, .int .i64 rh, .slice a4 L.length c4] := (k5).below hb6 (by first | omega | (simp; done) | (simp; omega))
                    replace s1 : SlI w6 .i64 8 l a1 c1 := (s1).below hb6 (by first | omega | (simp; done) | (simp; omega))
                    replace s2 : SlI w6 .i64 8 l a2 c2 := (s2).below hb6 (by first | omega | (simp; done) | (simp; omega))
                    replace ho : OwI w6 (w2.heap.size) 3 .i64 L (.slice a3 L.length c3) := (ho).keep hb6 (by first | omega | (simp; done) | (simp; omega))
                    have hB6 : Below W.heap.size W w6 := (hB5).trans (hb6.mono (by first | omega | (simp; done) | (simp; omega)))
                    clear hB5
                    have z6 := hb6.size
                    try simp at z6
                    clear k0_0 k0_1 k0_2 k0_3 k0_z k1_0 k1_1 k1_2 k1_3 k1_z k2_0 k2_1 k2_2 k2_z k3_0 k3_1 k3_2 k3_z k4_0 k4_1 k4_2 k4_z k5_0 k5_1 k5_2 k5_z
                    have k0_0 : w6.cell? ⟨W.heap.size, 0, none⟩ = some (.int .i64 sw) := k0.at_ 0 rfl
                    have k0_1 : w6.cell? ⟨W.heap.size, 1, none⟩ = some (.int .i64 sh) := k0.at_ 1 rfl
                    have k0_2 : w6.cell? ⟨W.heap.size, 2, none⟩ = some (.slice a zs.length c) := k0.at_ 2 rfl
                    have k0_3 : w6.cell? ⟨W.heap.size, 3, none⟩ = some (.bool fill) := k0.at_ 3 rfl
                    have k0_z : W.heap.size < w6.heap.size := k0.lt
                    have k1_0 : w6.cell? ⟨W.heap.size + 1, 0, none⟩ = some (.int .i64 X) := k1.at_ 0 rfl
                    have k1_1 : w6.cell? ⟨W.heap.size + 1, 1, none⟩ = some (.int .i64 Y) := k1.at_ 1 rfl
                    have k1_2 : w6.cell? ⟨W.heap.size + 1, 2, none⟩ = some (.int .i64 rw) := k1.at_ 2 rfl
                    have k1_3 : w6.cell? ⟨W.heap.size + 1, 3, none⟩ = some (.int .i64 rh) := k1.at_ 3 rfl
                    have k1_z : W.heap.size + 1 < w6.heap.size := k1.lt
                    have k2_0 : w6.cell? ⟨w1.heap.size, 0, none⟩ = some (.int .i64 gw) := k2.at_ 0 rfl
                    have k2_1 : w6.cell? ⟨w1.heap.size, 1, none⟩ = some (.int .i64 gh) := k2.at_ 1 rfl
                    have k2_2 : w6.cell? ⟨w1.heap.size, 2, none⟩ = some (.slice a1 l.length c1) := k2.at_ 2 rfl
                    have k2_z : w1.heap.size < w6.heap.size := k2.lt
                    have k3_0 : w6.cell? ⟨w1.heap.size + 1, 0, none⟩ = some (.int .i64 gw) := k3.at_ 0 rfl
                    have k3_1 : w6.cell? ⟨w1.heap.size + 1, 1, none⟩ = some (.int .i64 gh) := k3.at_ 1 rfl
                    have k3_2 : w6.cell? ⟨w1.heap.size + 1, 2, none⟩ = some (.slice a2 l.length c2) := k3.at_ 2 rfl
                    have k3_z : w1.heap.size + 1 < w6.heap.size := k3.lt
                    have k4_0 : w6.cell? ⟨w3.heap.size, 0, none⟩ = some (.int .i64 rw) := k4.at_ 0 rfl
                    have k4_1 : w6.cell? ⟨w3.heap.size, 1, none⟩ = some (.int .i64 rh) := k4.at_ 1 rfl
                    have k4_2 : w6.cell? ⟨w3.heap.size, 2, none⟩ = some (.slice a3 L.length c3) := k4.at_ 2 rfl
                    have k4_z : w3.heap.size < w6.heap.size := k4.lt
                    have k5_0 : w6.cell? ⟨w4.heap.size, 0, none⟩ = some (.int .i64 rw) := k5.at_ 0 rfl
                    have k5_1 : w6.cell? ⟨w4.heap.size, 1, none⟩ = some (.int .i64 rh) := k5.at_ 1 rfl
                    have k5_2 : w6.cell? ⟨w4.heap.size, 2, none⟩ = some (.slice a4 L.length c4) := k5.at_ 2 rfl
                    have k5_z : w4.heap.size < w6.heap.size := k5.lt
                    go_wp2
                    go_ret
                    exact ⟨rfl, hB6⟩
                  · obtain ⟨g, hga, hgb, hgl, _, _⟩ := ho.at_ hl0
                    subst hga
                    have hg3 := (HG3.out g rfl).2
                    have i0 : (0 : Int) < (L.length : Int) := by omega
                    clear HG3
                    go_wp2
                    go_loopw [80] (fun iv wr => ∃ (i : Nat) (M : List Int), i ≤ L.length ∧ iv = .int .i64 (i : Int) ∧ OwL wr w2.heap.size M L.length (.slice (some ⟨g, 0, none⟩) L.length c3) ∧ w5.grownBy wr (some g)) (fun iv _ => L.length - (intOf iv).toNat)
                    case atStart => exact ⟨0, L, Nat.zero_le _, rfl, ⟨ho, rfl⟩, World.grownBy.refl _ _⟩
                    case round =>
                      obtain ⟨i, M, hi, rfl, HOL, hgr⟩ := hrel
                      clear k0_0 k0_1 k0_2 k0_3 k1_0 k1_1 k1_2 k1_3 k2_0 k2_1 k2_2 k3_0 k3_1 k3_2 k4_0 k4_1 k4_2 k5_0 k5_1 k5_2
                      have k0' : Blk wr (W.heap.size) 24 #[.int .i64 sw, .int .i64 sh, .slice a zs.length c, .bool fill] := k0.row hgr (by omega)
                      have k0_0 : wr.cell? ⟨W.heap.size, 0, none⟩ = some (.int .i64 sw) := k0'.at_ 0 rfl
                      have k0_1 : wr.cell? ⟨W.heap.size, 1, none⟩ = some (.int .i64 sh) := k0'.at_ 1 rfl
                      have k0_2 : wr.cell? ⟨W.heap.size, 2, none⟩ = some (.slice a zs.length c) := k0'.at_ 2 rfl
                      have k0_3 : wr.cell? ⟨W.heap.size, 3, none⟩ = some (.bool fill) := k0'.at_ 3 rfl
                      have k1' : Blk wr (W.heap.size + 1) 26 #[.int .i64 X, .int .i64 Y, .int .i64 rw, .int .i64 rh] := k1.row hgr (by omega)
                      have k1_0 : wr.cell? ⟨W.heap.size + 1, 0, none⟩ = some (.int .i64 X) := k1'.at_ 0 rfl
                      have k1_1 : wr.cell? ⟨W.heap.size + 1, 1, none⟩ = some (.int .i64 Y) := k1'.at_ 1 rfl
                      have k1_2 : wr.cell? ⟨W.heap.size + 1, 2, none⟩ = some (.int .i64 rw) := k1'.at_ 2 rfl
                      have k1_3 : wr.cell? ⟨W.heap.size + 1, 3, none⟩ = some (.int .i64 rh) := k1'.at_ 3 rfl
                      have k2' : Blk wr (w1.heap.size) 28 #[.int .i64 gw, .int .i64 gh, .slice a1 l.length c1] := k2.row hgr (by omega)
                      have k2_0 : wr.cell? ⟨w1.heap.size, 0, none⟩ = some (.int .i64 gw) := k2'.at_ 0 rfl
                      have k2_1 : wr.cell? ⟨w1.heap.size, 1, none⟩ = some (.int .i64 gh) := k2'.at_ 1 rfl
                      have k2_2 : wr.cell? ⟨w1.heap.size, 2, none⟩ = some (.slice a1 l.length c1) := k2'.at_ 2 rfl
                      have k3' : Blk wr (w1.heap.size + 1) 30 #[.int .i64 gw, .int .i64 gh, .slice a2 l.length c2] := k3.row hgr (by omega)
                      have k3_0 : wr.cell? ⟨w1.heap.size + 1, 0, none⟩ = some (.int .i64 gw) := k3'.at_ 0 rfl
                      have k3_1 : wr.cell? ⟨w1.heap.size + 1, 1, none⟩ = some (.int .i64 gh) := k3'.at_ 1 rfl
                      have k3_2 : wr.cell? ⟨w1.heap.size + 1, 2, none⟩ = some (.slice a2 l.length c2) := k3'.at_ 2 rfl
                      have k4' : Blk wr (w3.heap.size) 28 #[.int .i64 rw, .int .i64 rh, .slice (some ⟨g, 0, none⟩) L.length c3] := k4.row hgr (by omega)
                      have k4_0 : wr.cell? ⟨w3.heap.size, 0, none⟩ = some (.int .i64 rw) := k4'.at_ 0 rfl
                      have k4_1 : wr.cell? ⟨w3.heap.size, 1, none⟩ = some (.int .i64 rh) := k4'.at_ 1 rfl
                      have k4_2 : wr.cell? ⟨w3.heap.size, 2, none⟩ = some (.slice (some ⟨g, 0, none⟩) L.length c3) := k4'.at_ 2 rfl
                      have k5' : Blk wr (w4.heap.size) 30 #[.int .i64 rw, .int .i64 rh, .slice a4 L.length c4] := k5.row hgr (by omega)
                      have k5_0 : wr.cell? ⟨w4.heap.size, 0, none⟩ = some (.int .i64 rw) := k5'.at_ 0 rfl
                      have k5_1 : wr.cell? ⟨w4.heap.size, 1, none⟩ = some (.int .i64 rh) := k5'.at_ 1 rfl
                      have k5_2 : wr.cell? ⟨w4.heap.size, 2, none⟩ = some (.slice a4 L.length c4) := k5'.at_ 2 rfl
                      by_cases hil : i < L.length
                      · obtain ⟨g', hg', _, hgl', hgf, hgc⟩ := HOL.1.atN HOL.2 hl0
                        injection hg' with hg'
                        injection hg' with hg'
                        subst hg'
                        have hgf1 := hgf i
                        have hgc1 := hgc i hil
                        clear hgf hgc
                        obtain ⟨u, hu⟩ : ∃ u, u = M.getD i 0 := ⟨_, rfl⟩
                        rw [← hu] at hgc1
                        have HST := Lib.hid (HOL.1.setN HOL.2 i (wrap64_wf (u + 1)))
                        have HML := Lib.hid HOL.2
                        have i1 : (0 : Int) ≤ (i : Int) := by omega
                        have i2 : (i : Int) < (L.length : Int) := by omega
                        clear hu HOL
                        go_wp2
                        go_roundw
                        case rel => exact ⟨i + 1, M.set i (wrap64 (u + 1)), by omega, by go_num, ⟨HST.out.1, by rw [List.length_set]; exact HML.out⟩, hgr.trans HST.out.2⟩
                        case measure => simp [intOf]; omega
                      · have hX : Below w2.heap.size w2 wr := hb25.grown hgr (by omega) (by intro k hk; injection hk; omega)
                        have zr := hX.size
                        have hY : Below W.heap.size W wr := hB5.grown hgr (by omega) (by intro k hk; injection hk; omega)
                        go_wp2_with fail
                        go_at_call 13
                        refine (like_any _ _ _ _ _ _ _ _ _ _ _ (T1.out.below hX (Nat.le_refl _)) (T2.out.below hX (Nat.le_refl _)) true (by simp)).mono ?_
                        rintro e w6 ⟨rfl, hb6⟩
                        go_wp2
                        go_ret
                        exact ⟨rfl, hY.trans (hb6.mono (by have := hY.size; omega))⟩
          · by_cases t3 : 1099511627776 < X
            · go_wp2_with fail
              go_at_call 10
              refine (lives_ok _).mono ?_
              rintro e w2 ⟨rfl, hb2⟩
              replace k0 : Blk w2 (W.heap.size) 24 #[.int .i64 sw, .int .i64 sh, .slice a zs.length c, .bool fill] := (((k0.alloc _).alloc _)).below hb2 (by first | omega | (simp; done) | (simp; omega))
              replace k1 : Blk w2 (W.heap.size + 1) 26 #[.int .i64 X, .int .i64 Y, .int .i64 rw, .int .i64 rh] := (((k1.alloc _).alloc _)).below hb2 (by first | omega | (simp; done) | (simp; omega))
              have k2 : Blk w2 (w1.heap.size) 28 #[.int .i64 gw, .int .i64 gh, .slice a1 l.length c1] := (((Blk.new _ _ _ (by first | rfl | simp)).alloc _)).below hb2 (by first | omega | (simp; done) | (simp; omega))
              have k3 : Blk w2 (w1.heap.size + 1) 30 #[.int .i64 gw, .int .i64 gh, .slice a2 l.length c2] := ((Blk.new _ _ _ (by first | rfl | simp))).below hb2 (by first | omega | (simp; done) | (simp; omega))
              replace s1 : SlI w2 .i64 8 l a1 c1 := (((s1.alloc _).alloc _)).below hb2 (by first | omega | (simp; done) | (simp; omega))
              replace s2 : SlI w2 .i64 8 l a2 c2 := (((s2.alloc _).alloc _)).below hb2 (by first | omega | (simp; done) | (simp; omega))
              have hB2 : Below W.heap.size W w2 := (((hB1.alloc (by first | omega | (simp; done) | (simp; omega)) _).alloc (by first | omega | (simp; done) | (simp; omega)) _)).trans (hb2.mono (by first | omega | (simp; done) | (simp; omega)))
              clear hB1
              have z2 := hb2.size
              try simp at z2
              clear k0_0 k0_1 k0_2 k0_3 k0_z k1_0 k1_1 k1_2 k1_3 k1_z
              have k0_0 : w2.cell? ⟨W.heap.size, 0, none⟩ = some (.int .i64 sw) := k0.at_ 0 rfl
              have k0_1 : w2.cell? ⟨W.heap.size, 1, none⟩ = some (.int .i64 sh) := k0.at_ 1 rfl
              have k0_2 : w2.cell? ⟨W.heap.size, 2, none⟩ = some (.slice a zs.length c) := k0.at_ 2 rfl
              have k0_3 : w2.cell? ⟨W.heap.size, 3, none⟩ = some (.bool fill) := k0.at_ 3 rfl
              have k0_z : W.heap.size < w2.heap.size := k0.lt
              have k1_0 : w2.cell? ⟨W.heap.size + 1, 0, none⟩ = some (.int .i64 X) := k1.at_ 0 rfl
              have k1_1 : w2.cell? ⟨W.heap.size + 1, 1, none⟩ = some (.int .i64 Y) := k1.at_ 1 rfl
              have k1_2 : w2.cell? ⟨W.heap.size + 1, 2, none⟩ = some (.int .i64 rw) := k1.at_ 2 rfl
              have k1_3 : w2.cell? ⟨W.heap.size + 1, 3, none⟩ = some (.int .i64 rh) := k1.at_ 3 rfl
              have k1_z : W.heap.size + 1 < w2.heap.size := k1.lt
              have k2_0 : w2.cell? ⟨w1.heap.size, 0, none⟩ = some (.int .i64 gw) := k2.at_ 0 rfl
              have k2_1 : w2.cell? ⟨w1.heap.size, 1, none⟩ = some (.int .i64 gh) := k2.at_ 1 rfl
              have k2_2 : w2.cell? ⟨w1.heap.size, 2, none⟩ = some (.slice a1 l.length c1) := k2.at_ 2 rfl
              have k2_z : w1.heap.size < w2.heap.size := k2.lt
              have k3_0 : w2.cell? ⟨w1.heap.size + 1, 0, none⟩ = some (.int .i64 gw) := k3.at_ 0 rfl
              have k3_1 : w2.cell? ⟨w1.heap.size + 1, 1, none⟩ = some (.int .i64 gh) := k3.at_ 1 rfl
              have k3_2 : w2.cell? ⟨w1.heap.size + 1, 2, none⟩ = some (.slice a2 l.length c2) := k3.at_ 2 rfl
              have k3_z : w1.heap.size + 1 < w2.heap.size := k3.lt
              go_wp2_with fail
              go_at_call 10
              refine (lives_ok _).mono ?_
              rintro e w3 ⟨rfl, hb3⟩
              replace k0 : Blk w3 (W.heap.size) 24 #[.int .i64 sw, .int .i64 sh, .slice a zs.length c, .bool fill] := (k0).below hb3 (by first | omega | (simp; done) | (simp; omega))
              replace k1 : Blk w3 (W.heap.size + 1) 26 #[.int .i64 X, .int .i64 Y, .int .i64 rw, .int .i64 rh] := (k1).below hb3 (by first | omega | (simp; done) | (simp; omega))
              replace k2 : Blk w3 (w1.heap.size) 28 #[.int .i64 gw, .int .i64 gh, .slice a1 l.length c1] := (k2).below hb3 (by first | omega | (simp; done) | (simp; omega))
              replace k3 : Blk w3 (w1.heap.size + 1) 30 #[.int .i64 gw, .int .i64 gh, .slice a2 l.length c2] := (k3).below hb3 (by first | omega | (simp; done) | (simp; omega))
              replace s1 : SlI w3 .i64 8 l a1 c1 := (s1).below hb3 (by first | omega | (simp; done) | (simp; omega))
              replace s2 : SlI w3 .i64 8 l a2 c2 := (s2).below hb3 (by first | omega | (simp; done) | (simp; omega))
              have hB3 : Below W.heap.size W w3 := (hB2).trans (hb3.mono (by first | omega | (simp; done) | (simp; omega)))
              clear hB2
              have z3 := hb3.size
              try simp at z3
              clear k0_0 k0_1 k0_2 k0_3 k0_z k1_0 k1_1 k1_2 k1_3 k1_z k2_0 k2_1 k2_2 k2_z k3_0 k3_1 k3_2 k3_z
              have k0_0 : w3.cell? ⟨W.heap.size, 0, none⟩ = some (.int .i64 sw) := k0.at_ 0 rfl
              have k0_1 : w3.cell? ⟨W.heap.size, 1, none⟩ = some (.int .i64 sh) := k0.at_ 1 rfl
              have k0_2 : w3.cell? ⟨W.heap.size, 2, none⟩ = some (.slice a zs.length c) := k0.at_ 2 rfl
              have k0_3 : w3.cell? ⟨W.heap.size, 3, none⟩ = some (.bool fill) := k0.at_ 3 rfl
              have k0_z : W.heap.size < w3.heap.size := k0.lt
              have k1_0 : w3.cell? ⟨W.heap.size + 1, 0, none⟩ = some (.int .i64 X) := k1.at_ 0 rfl
              have k1_1 : w3.cell? ⟨W.heap.size + 1, 1, none⟩ = some (.int .i64 Y) := k1.at_ 1 rfl
              have k1_2 : w3.cell? ⟨W.heap.size + 1, 2, none⟩ = some (.int .i64 rw) := k1.at_ 2 rfl
              have k1_3 : w3.cell? ⟨W.heap.size + 1, 3, none⟩ = some (.int .i64 rh) := k1.at_ 3 rfl
              have k1_z : W.heap.size + 1 < w3.heap.size := k1.lt
              have k2_0 : w3.cell? ⟨w1.heap.size, 0, none⟩ = some (.int .i64 gw) := k2.at_ 0 rfl
              have k2_1 : w3.cell? ⟨w1.heap.size, 1, none⟩ = some (.int .i64 gh) := k2.at_ 1 rfl
              have k2_2 : w3.cell? ⟨w1.heap.size, 2, none⟩ = some (.slice a1 l.length c1) := k2.at_ 2 rfl
              have k2_z : w1.heap.size < w3.heap.size := k2.lt
              have k3_0 : w3.cell? ⟨w1.heap.size + 1, 0, none⟩ = some (.int .i64 gw) := k3.at_ 0 rfl
              have k3_1 : w3.cell? ⟨w1.heap.size + 1, 1, none⟩ = some (.int .i64 gh) := k3.at_ 1 rfl
              have k3_2 : w3.cell? ⟨w1.heap.size + 1, 2, none⟩ = some (.slice a2 l.length c2) := k3.at_ 2 rfl
              have k3_z : w1.heap.size + 1 < w3.heap.size := k3.lt
              go_wp2
              go_ret
              exact ⟨rfl, hB3⟩
            · by_cases t4 : 1099511627776 < Y
              · go_wp2_with fail
                go_at_call 10
                refine (lives_ok _).mono ?_
                rintro e w2 ⟨rfl, hb2⟩
                replace k0 : Blk w2 (W.heap.size) 24 #[.int .i64 sw, .int .i64 sh, .slice a zs.length c, .bool fill] := (((k0.alloc _).alloc _)).below hb2 (by first | omega | (simp; done) | (simp; omega))
                replace k1 : Blk w2 (W.heap.size + 1) 26 #[.int .i64 X, .int .i64 Y, .int .i64 rw, .int .i64 rh] := (((k1.alloc _).alloc _)).below hb2 (by first | omega | (simp; done) | (simp; omega))
                have k2 : Blk w2 (w1.heap.size) 28 #[.int .i64 gw, .int .i64 gh, .slice a1 l.length c1] := (((Blk.new _ _ _ (by first | rfl | simp)).alloc _)).below hb2 (by first | omega | (simp; done) | (simp; omega))
                have k3 : Blk w2 (w1.heap.size + 1) 30 #[.int .i64 gw, .int .i64 gh, .slice a2 l.length c2] := ((Blk.new _ _ _ (by first | rfl | simp))).below hb2 (by first | omega | (simp; done) | (simp; omega))
                replace s1 : SlI w2 .i64 8 l a1 c1 := (((s1.alloc _).alloc _)).below hb2 (by first | omega | (simp; done) | (simp; omega))
                replace s2 : SlI w2 .i64 8 l a2 c2 := (((s2.alloc _).alloc _)).below hb2 (by first | omega | (simp; done) | (simp; omega))
                have hB2 : Below W.heap.size W w2 := (((hB1.alloc (by first | omega | (simp; done) | (simp; omega)) _).alloc (by first | omega | (simp; done) | (simp; omega)) _)).trans (hb2.mono (by first | omega | (simp; done) | (simp; omega)))
                clear hB1
                have z2 := hb2.size
                try simp at z2
                clear k0_0 k0_1 k0_2 k0_3 k0_z k1_0 k1_1 k1_2 k1_3 k1_z
                have k0_0 : w2.cell? ⟨W.heap.size, 0, none⟩ = some (.int .i64 sw) := k0.at_ 0 rfl
                have k0_1 : w2.cell? ⟨W.heap.size, 1, none⟩ = some (.int .i64 sh) := k0.at_ 1 rfl
                have k0_2 : w2.cell? ⟨W.heap.size, 2, none⟩ = some (.slice a zs.length c) := k0.at_ 2 rfl
                have k0_3 : w2.cell? ⟨W.heap.size, 3, none⟩ = some (.bool fill) := k0.at_ 3 rfl
                have k0_z : W.heap.size < w2.heap.size := k0.lt
                have k1_0 : w2.cell? ⟨W.heap.size + 1, 0, none⟩ = some (.int .i64 X) := k1.at_ 0 rfl
                have k1_1 : w2.cell? ⟨W.heap.size + 1, 1, none⟩ = some (.int .i64 Y) := k1.at_ 1 rfl
                have k1_2 : w2.cell? ⟨W.heap.size + 1, 2, none⟩ = some (.int .i64 rw) := k1.at_ 2 rfl
                have k1_3 : w2.cell? ⟨W.heap.size + 1, 3, none⟩ = some (.int .i64 rh) := k1.at_ 3 rfl
                have k1_z : W.heap.size + 1 < w2.heap.size := k1.lt
                have k2_0 : w2.cell? ⟨w1.heap.size, 0, none⟩ = some (.int .i64 gw) := k2.at_ 0 rfl
                have k2_1 : w2.cell? ⟨w1.heap.size, 1, none⟩ = some (.int .i64 gh) := k2.at_ 1 rfl
                have k2_2 : w2.cell? ⟨w1.heap.size, 2, none⟩ = some (.slice a1 l.length c1) := k2.at_ 2 rfl
                have k2_z : w1.heap.size < w2.heap.size := k2.lt
                have k3_0 : w2.cell? ⟨w1.heap.size + 1, 0, none⟩ = some (.int .i64 gw) := k3.at_ 0 rfl
                have k3_1 : w2.cell? ⟨w1.heap.size + 1, 1, none⟩ = some (.int .i64 gh) := k3.at_ 1 rfl
                have k3_2 : w2.cell? ⟨w1.heap.size + 1, 2, none⟩ = some (.slice a2 l.length c2) := k3.at_ 2 rfl
                have k3_z : w1.heap.size + 1 < w2.heap.size := k3.lt
                go_wp2_with fail
                go_at_call 10
                refine (lives_ok _).mono ?_
                rintro e w3 ⟨rfl, hb3⟩
                replace k0 : Blk w3 (W.heap.size) 24 #[.int .i64 sw, .int .i64 sh, .slice a zs.length c, .bool fill] := (k0).below hb3 (by first | omega | (simp; done) | (simp; omega))
                replace k1 : Blk w3 (W.heap.size + 1) 26 #[.int .i64 X, .int .i64 Y, .int .i64 rw, .int .i64 rh] := (k1).below hb3 (by first | omega | (simp; done) | (simp; omega))
                replace k2 : Blk w3 (w1.heap.size) 28 #[.int .i64 gw, .int .i64 gh, .slice a1 l.length c1] := (k2).below hb3 (by first | omega | (simp; done) | (simp; omega))
                replace k3 : Blk w3 (w1.heap.size + 1) 30 #[.int .i64 gw, .int .i64 gh, .slice a2 l.length c2] := (k3).below hb3 (by first | omega | (simp; done) | (simp; omega))
                replace s1 : SlI w3 .i64 8 l a1 c1 := (s1).below hb3 (by first | omega | (simp; done) | (simp; omega))
                replace s2 : SlI w3 .i64 8 l a2 c2 := (s2).below hb3 (by first | omega | (simp; done) | (simp; omega))
                have hB3 : Below W.heap.size W w3 := (hB2).trans (hb3.mono (by first | omega | (simp; done) | (simp; omega)))
                clear hB2
                have z3 := hb3.size
                try simp at z3
                clear k0_0 k0_1 k0_2 k0_3 k0_z k1_0 k1_1 k1_2 k1_3 k1_z k2_0 k2_1 k2_2 k2_z k3_0 k3_1 k3_2 k3_z
                have k0_0 : w3.cell? ⟨W.heap.size, 0, none⟩ = some (.int .i64 sw) := k0.at_ 0 rfl
                have k0_1 : w3.cell? ⟨W.heap.size, 1, none⟩ = some (.int .i64 sh) := k0.at_ 1 rfl
                have k0_2 : w3.cell? ⟨W.heap.size, 2, none⟩ = some (.slice a zs.length c) := k0.at_ 2 rfl
                have k0_3 : w3.cell? ⟨W.heap.size, 3, none⟩ = some (.bool fill) := k0.at_ 3 rfl
                have k0_z : W.heap.size < w3.heap.size := k0.lt
                have k1_0 : w3.cell? ⟨W.heap.size + 1, 0, none⟩ = some (.int .i64 X) := k1.at_ 0 rfl
                have k1_1 : w3.cell? ⟨W.heap.size + 1, 1, none⟩ = some (.int .i64 Y) := k1.at_ 1 rfl
                have k1_2 : w3.cell? ⟨W.heap.size + 1, 2, none⟩ = some (.int .i64 rw) := k1.at_ 2 rfl
                have k1_3 : w3.cell? ⟨W.heap.size + 1, 3, none⟩ = some (.int .i64 rh) := k1.at_ 3 rfl
                have k1_z : W.heap.size + 1 < w3.heap.size := k1.lt
                have k2_0 : w3.cell? ⟨w1.heap.size, 0, none⟩ = some (.int .i64 gw) := k2.at_ 0 rfl
                have k2_1 : w3.cell? ⟨w1.heap.size, 1, none⟩ = some (.int .i64 gh) := k2.at_ 1 rfl
                have k2_2 : w3.cell? ⟨w1.heap.size, 2, none⟩ = some (.slice a1 l.length c1) := k2.at_ 2 rfl
                have k2_z : w1.heap.size < w3.heap.size := k2.lt
                have k3_0 : w3.cell? ⟨w1.heap.size + 1, 0, none⟩ = some (.int .i64 gw) := k3.at_ 0 rfl
                have k3_1 : w3.cell? ⟨w1.heap.size + 1, 1, none⟩ = some (.int .i64 gh) := k3.at_ 1 rfl
                have k3_2 : w3.cell? ⟨w1.heap.size + 1, 2, none⟩ = some (.slice a2 l.length c2) := k3.at_ 2 rfl
                have k3_z : w1.heap.size + 1 < w3.heap.size := k3.lt
                go_wp2
                go_ret
                exact ⟨rfl, hB3⟩
              · have HN : Hid ((fitsB rw rh && hasB gw gh l.length X Y) = false) := by
                  have : fitsB rw rh = false := by unfold fitsB; exact decide_eq_false (by omega)
                  unfold Hid; rw [this]; rfl
                go_wp2_with fail
                go_at_call 10
                refine (lives_ok _).mono ?_
                rintro e w2 ⟨rfl, hb2⟩
                replace k0 : Blk w2 (W.heap.size) 24 #[.int .i64 sw, .int .i64 sh, .slice a zs.length c, .bool fill] := (((k0.alloc _).alloc _)).below hb2 (by first | omega | (simp; done) | (simp; omega))
                replace k1 : Blk w2 (W.heap.size + 1) 26 #[.int .i64 X, .int .i64 Y, .int .i64 rw, .int .i64 rh] := (((k1.alloc _).alloc _)).below hb2 (by first | omega | (simp; done) | (simp; omega))
                have k2 : Blk w2 (w1.heap.size) 28 #[.int .i64 gw, .int .i64 gh, .slice a1 l.length c1] := (((Blk.new _ _ _ (by first | rfl | simp)).alloc _)).below hb2 (by first | omega | (simp; done) | (simp; omega))
                have k3 : Blk w2 (w1.heap.size + 1) 30 #[.int .i64 gw, .int .i64 gh, .slice a2 l.length c2] := ((Blk.new _ _ _ (by first | rfl | simp))).below hb2 (by first | omega | (simp; done) | (simp; omega))
                replace s1 : SlI w2 .i64 8 l a1 c1 := (((s1.alloc _).alloc _)).below hb2 (by first | omega | (simp; done) | (simp; omega))
                replace s2 : SlI w2 .i64 8 l a2 c2 := (((s2.alloc _).alloc _)).below hb2 (by first | omega | (simp; done) | (simp; omega))
                have hB2 : Below W.heap.size W w2 := (((hB1.alloc (by first | omega | (simp; done) | (simp; omega)) _).alloc (by first | omega | (simp; done) | (simp; omega)) _)).trans (hb2.mono (by first | omega | (simp; done) | (simp; omega)))
                clear hB1
                have z2 := hb2.size
                try simp at z2
                clear k0_0 k0_1 k0_2 k0_3 k0_z k1_0 k1_1 k1_2 k1_3 k1_z
                have k0_0 : w2.cell? ⟨W.heap.size, 0, none⟩ = some (.int .i64 sw) := k0.at_ 0 rfl
                have k0_1 : w2.cell? ⟨W.heap.size, 1, none⟩ = some (.int .i64 sh) := k0.at_ 1 rfl
                have k0_2 : w2.cell? ⟨W.heap.size, 2, none⟩ = some (.slice a zs.length c) := k0.at_ 2 rfl
                have k0_3 : w2.cell? ⟨W.heap.size, 3, none⟩ = some (.bool fill) := k0.at_ 3 rfl
                have k0_z : W.heap.size < w2.heap.size := k0.lt
                have k1_0 : w2.cell? ⟨W.heap.size + 1, 0, none⟩ = some (.int .i64 X) := k1.at_ 0 rfl
                have k1_1 : w2.cell? ⟨W.heap.size + 1, 1, none⟩ = some (.int .i64 Y) := k1.at_ 1 rfl
                have k1_2 : w2.cell? ⟨W.heap.size + 1, 2, none⟩ = some (.int .i64 rw) := k1.at_ 2 rfl
                have k1_3 : w2.cell? ⟨W.heap.size + 1, 3, none⟩ = some (.int .i64 rh) := k1.at_ 3 rfl
                have k1_z : W.heap.size + 1 < w2.heap.size := k1.lt
                have k2_0 : w2.cell? ⟨w1.heap.size, 0, none⟩ = some (.int .i64 gw) := k2.at_ 0 rfl
                have k2_1 : w2.cell? ⟨w1.heap.size, 1, none⟩ = some (.int .i64 gh) := k2.at_ 1 rfl
                have k2_2 : w2.cell? ⟨w1.heap.size, 2, none⟩ = some (.slice a1 l.length c1) := k2.at_ 2 rfl
                have k2_z : w1.heap.size < w2.heap.size := k2.lt
                have k3_0 : w2.cell? ⟨w1.heap.size + 1, 0, none⟩ = some (.int .i64 gw) := k3.at_ 0 rfl
                have k3_1 : w2.cell? ⟨w1.heap.size + 1, 1, none⟩ = some (.int .i64 gh) := k3.at_ 1 rfl
                have k3_2 : w2.cell? ⟨w1.heap.size + 1, 2, none⟩ = some (.slice a2 l.length c2) := k3.at_ 2 rfl
                have k3_z : w1.heap.size + 1 < w2.heap.size := k3.lt
                go_wp2_with fail
                go_at_call 11
                refine (cut_no _ _ _ _ _ _ _ _ _ _ (by omega) HN.out).mono ?_
                rintro e w3 ⟨rfl, hb3⟩
                replace k0 : Blk w3 (W.heap.size) 24 #[.int .i64 sw, .int .i64 sh, .slice a zs.length c, .bool fill] := (k0).below hb3 (by first | omega | (simp; done) | (simp; omega))
                replace k1 : Blk w3 (W.heap.size + 1) 26 #[.int .i64 X, .int .i64 Y, .int .i64 rw, .int .i64 rh] := (k1).below hb3 (by first | omega | (simp; done) | (simp; omega))
                replace k2 : Blk w3 (w1.heap.size) 28 #[.int .i64 gw, .int .i64 gh, .slice a1 l.length c1] := (k2).below hb3 (by first | omega | (simp; done) | (simp; omega))
                replace k3 : Blk w3 (w1.heap.size + 1) 30 #[.int .i64 gw, .int .i64 gh, .slice a2 l.length c2] := (k3).below hb3 (by first | omega | (simp; done) | (simp; omega))
                replace s1 : SlI w3 .i64 8 l a1 c1 := (s1).below hb3 (by first | omega | (simp; done) | (simp; omega))
                replace s2 : SlI w3 .i64 8 l a2 c2 := (s2).below hb3 (by first | omega | (simp; done) | (simp; omega))
                have hB3 : Below W.heap.size W w3 := (hB2).trans (hb3.mono (by first | omega | (simp; done) | (simp; omega)))
                clear hB2
                have z3 := hb3.size
                try simp at z3
                clear k0_0 k0_1 k0_2 k0_3 k0_z k1_0 k1_1 k1_2 k1_3 k1_z k2_0 k2_1 k2_2 k2_z k3_0 k3_1 k3_2 k3_z
                have k0_0 : w3.cell? ⟨W.heap.size, 0, none⟩ = some (.int .i64 sw) := k0.at_ 0 rfl
                have k0_1 : w3.cell? ⟨W.heap.size, 1, none⟩ = some (.int .i64 sh) := k0.at_ 1 rfl
                have k0_2 : w3.cell? ⟨W.heap.size, 2, none⟩ = some (.slice a zs.length c) := k0.at_ 2 rfl
                have k0_3 : w3.cell? ⟨W.heap.size, 3, none⟩ = some (.bool fill) := k0.at_ 3 rfl
                have k0_z : W.heap.size < w3.heap.size := k0.lt
                have k1_0 : w3.cell? ⟨W.heap.size + 1, 0, none⟩ = some (.int .i64 X) := k1.at_ 0 rfl
                have k1_1 : w3.cell? ⟨W.heap.size + 1, 1, none⟩ = some (.int .i64 Y) := k1.at_ 1 rfl
                have k1_2 : w3.cell? ⟨W.heap.size + 1, 2, none⟩ = some (.int .i64 rw) := k1.at_ 2 rfl
                have k1_3 : w3.cell? ⟨W.heap.size + 1, 3, none⟩ = some (.int .i64 rh) := k1.at_ 3 rfl
                have k1_z : W.heap.size + 1 < w3.heap.size := k1.lt
                have k2_0 : w3.cell? ⟨w1.heap.size, 0, none⟩ = some (.int .i64 gw) := k2.at_ 0 rfl
                have k2_1 : w3.cell? ⟨w1.heap.size, 1, none⟩ = some (.int .i64 gh) := k2.at_ 1 rfl
                have k2_2 : w3.cell? ⟨w1.heap.size, 2, none⟩ = some (.slice a1 l.length c1) := k2.at_ 2 rfl
                have k2_z : w1.heap.size < w3.heap.size := k2.lt
                have k3_0 : w3.cell? ⟨w1.heap.size + 1, 0, none⟩ = some (.int .i64 gw) := k3.at_ 0 rfl
                have k3_1 : w3.cell? ⟨w1.heap.size + 1, 1, none⟩ = some (.int .i64 gh) := k3.at_ 1 rfl
                have k3_2 : w3.cell? ⟨w1.heap.size + 1, 2, none⟩ = some (.slice a2 l.length c2) := k3.at_ 2 rfl
                have k3_z : w1.heap.size + 1 < w3.heap.size := k3.lt
                go_wp2_with fail
                go_at_call 12
                refine (rcut_no _ _ _ _ _ _ _ _ _ _ (by omega) HN.out).mono ?_
                rintro e w4 ⟨rfl, hb4⟩
                replace k0 : Blk w4 (W.heap.size) 24 #[.int .i64 sw, .int .i64 sh, .slice a zs.length c, .bool fill] := ((k0.alloc _)).below hb4 (by first | omega | (simp; done) | (simp; omega))
                replace k1 : Blk w4 (W.heap.size + 1) 26 #[.int .i64 X, .int .i64 Y, .int .i64 rw, .int .i64 rh] := ((k1.alloc _)).below hb4 (by first | omega | (simp; done) | (simp; omega))
                replace k2 : Blk w4 (w1.heap.size) 28 #[.int .i64 gw, .int .i64 gh, .slice a1 l.length c1] := ((k2.alloc _)).below hb4 (by first | omega | (simp; done) | (simp; omega))
                replace k3 : Blk w4 (w1.heap.size + 1) 30 #[.int .i64 gw, .int .i64 gh, .slice a2 l.length c2] := ((k3.alloc _)).below hb4 (by first | omega | (simp; done) | (simp; omega))
                have k4 : Blk w4 (w3.heap.size) 28 #[.int .i64 0, .int .i64 0, .slice none 0 0] := ((Blk.new _ _ _ (by first | rfl | simp))).below hb4 (by first | omega | (simp; done) | (simp; omega))
                replace s1 : SlI w4 .i64 8 l a1 c1 := ((s1.alloc _)).below hb4 (by first | omega | (simp; done) | (simp; omega))
                replace s2 : SlI w4 .i64 8 l a2 c2 := ((s2.alloc _)).below hb4 (by first | omega | (simp; done) | (simp; omega))
                have hB4 : Below W.heap.size W w4 := ((hB3.alloc (by first | omega | (simp; done) | (simp; omega)) _)).trans (hb4.mono (by first | omega | (simp; done) | (simp; omega)))
                clear hB3
                have z4 := hb4.size
                try simp at z4
                clear k0_0 k0_1 k0_2 k0_3 k0_z k1_0 k1_1 k1_2 k1_3 k1_z k2_0 k2_1 k2_2 k2_z k3_0 k3_1 k3_2 k3_z
                have k0_0 : w4.cell? ⟨W.heap.size, 0, none⟩ = some (.int .i64 sw) := k0.at_ 0 rfl
                have k0_1 : w4.cell? ⟨W.heap.size, 1, none⟩ = some (.int .i64 sh) := k0.at_ 1 rfl
                have k0_2 : w4.cell? ⟨W.heap.size, 2, none⟩ = some (.slice a zs.length c) := k0.at_ 2 rfl
                have k0_3 : w4.cell? ⟨W.heap.size, 3, none⟩ = some (.bool fill) := k0.at_ 3 rfl
                have k0_z : W.heap.size < w4.heap.size := k0.lt
                have k1_0 : w4.cell? ⟨W.heap.size + 1, 0, none⟩ = some (.int .i64 X) := k1.at_ 0 rfl
                have k1_1 : w4.cell? ⟨W.heap.size + 1, 1, none⟩ = some (.int .i64 Y) := k1.at_ 1 rfl
                have k1_2 : w4.cell? ⟨W.heap.size + 1, 2, none⟩ = some (.int .i64 rw) := k1.at_ 2 rfl
                have k1_3 : w4.cell? ⟨W.heap.size + 1, 3, none⟩ = some (.int .i64 rh) := k1.at_ 3 rfl
                have k1_z : W.heap.size + 1 < w4.heap.size := k1.lt
                have k2_0 : w4.cell? ⟨w1.heap.size, 0, none⟩ = some (.int .i64 gw) := k2.at_ 0 rfl
                have k2_1 : w4.cell? ⟨w1.heap.size, 1, none⟩ = some (.int .i64 gh) := k2.at_ 1 rfl
                have k2_2 : w4.cell? ⟨w1.heap.size, 2, none⟩ = some (.slice a1 l.length c1) := k2.at_ 2 rfl
                have k2_z : w1.heap.size < w4.heap.size := k2.lt
                have k3_0 : w4.cell? ⟨w1.heap.size + 1, 0, none⟩ = some (.int .i64 gw) := k3.at_ 0 rfl
                have k3_1 : w4.cell? ⟨w1.heap.size + 1, 1, none⟩ = some (.int .i64 gh) := k3.at_ 1 rfl
                have k3_2 : w4.cell? ⟨w1.heap.size + 1, 2, none⟩ = some (.slice a2 l.length c2) := k3.at_ 2 rfl
                have k3_z : w1.heap.size + 1 < w4.heap.size := k3.lt
                have k4_0 : w4.cell? ⟨w3.heap.size, 0, none⟩ = some (.int .i64 0) := k4.at_ 0 rfl
                have k4_1 : w4.cell? ⟨w3.heap.size, 1, none⟩ = some (.int .i64 0) := k4.at_ 1 rfl
                have k4_2 : w4.cell? ⟨w3.heap.size, 2, none⟩ = some (.slice none 0 0) := k4.at_ 2 rfl
                have k4_z : w3.heap.size < w4.heap.size := k4.lt
                go_wp2_with fail
                go_at_call 13
                refine (like_any _ _ _ _ _ [] [] _ _ _ _ (SlI.nil _ _ _) (SlI.nil _ _ _) true (by decide)).mono ?_
                rintro e w5 ⟨rfl, hb5⟩
                replace k0 : Blk w5 (W.heap.size) 24 #[.int .i64 sw, .int .i64 sh, .slice a zs.length c, .bool fill] := ((k0.alloc _)).below hb5 (by first | omega | (simp; done) | (simp; omega))
                replace k1 : Blk w5 (W.heap.size + 1) 26 #[.int .i64 X, .int .i64 Y, .int .i64 rw, .int .i64 rh] := ((k1.alloc _)).below hb5 (by first | omega | (simp; done) | (simp; omega))
                replace k2 : Blk w5 (w1.heap.size) 28 #[.int .i64 gw, .int .i64 gh, .slice a1 l.length c1] := ((k2.alloc _)).below hb5 (by first | omega | (simp; done) | (simp; omega))
                replace k3 : Blk w5 (w1.heap.size + 1) 30 #[.int .i64 gw, .int .i64 gh, .slice a2 l.length c2] := ((k3.alloc _)).below hb5 (by first | omega | (simp; done) | (simp; omega))
                replace k4 : Blk w5 (w3.heap.size) 28 #[.int .i64 0, .int .i64 0, .slice none 0 0] := ((k4.alloc _)).below hb5 (by first | omega | (simp; done) | (simp; omega))
                have k5 : Blk w5 (w4.heap.size) 30 #[.int .i64 0, .int .i64 0, .slice none 0 0] := ((Blk.new _ _ _ (by first | rfl | simp))).below hb5 (by first | omega | (simp; done) | (simp; omega))
                replace s1 : SlI w5 .i64 8 l a1 c1 := ((s1.alloc _)).below hb5 (by first | omega | (simp; done) | (simp; omega))
                replace s2 : SlI w5 .i64 8 l a2 c2 := ((s2.alloc _)).below hb5 (by first | omega | (simp; done) | (simp; omega))
                have hB5 : Below W.heap.size W w5 := ((hB4.alloc (by first | omega | (simp; done) | (simp; omega)) _)).trans (hb5.mono (by first | omega | (simp; done) | (simp; omega)))
                clear hB4
                have z5 := hb5.size
                try simp at z5
                clear k0_0 k0_1 k0_2 k0_3 k0_z k1_0 k1_1 k1_2 k1_3 k1_z k2_0 k2_1 k2_2 k2_z k3_0 k3_1 k3_2 k3_z k4_0 k4_1 k4_2 k4_z
                have k0_0 : w5.cell? ⟨W.heap.size, 0, none⟩ = some (.int .i64 sw) := k0.at_ 0 rfl
                have k0_1 : w5.cell? ⟨W.heap.size, 1, none⟩ = some (.int .i64 sh) := k0.at_ 1 rfl
                have k0_2 : w5.cell? ⟨W.heap.size, 2, none⟩ = some (.slice a zs.length c) := k0.at_ 2 rfl
                have k0_3 : w5.cell? ⟨W.heap.size, 3, none⟩ = some (.bool fill) := k0.at_ 3 rfl
                have k0_z : W.heap.size < w5.heap.size := k0.lt
                have k1_0 : w5.cell? ⟨W.heap.size + 1, 0, none⟩ = some (.int .i64 X) := k1.at_ 0 rfl
                have k1_1 : w5.cell? ⟨W.heap.size + 1, 1, none⟩ = some (.int .i64 Y) := k1.at_ 1 rfl
                have k1_2 : w5.cell? ⟨W.heap.size + 1, 2, none⟩ = some (.int .i64 rw) := k1.at_ 2 rfl
                have k1_3 : w5.cell? ⟨W.heap.size + 1, 3, none⟩ = some (.int .i64 rh) := k1.at_ 3 rfl
                have k1_z : W.heap.size + 1 < w5.heap.size := k1.lt
                have k2_0 : w5.cell? ⟨w1.heap.size, 0, none⟩ = some (.int .i64 gw) := k2.at_ 0 rfl
                have k2_1 : w5.cell? ⟨w1.heap.size, 1, none⟩ = some (.int .i64 gh) := k2.at_ 1 rfl
                have k2_2 : w5.cell? ⟨w1.heap.size, 2, none⟩ = some (.slice a1 l.length c1) := k2.at_ 2 rfl
                have k2_z : w1.heap.size < w5.heap.size := k2.lt
                have k3_0 : w5.cell? ⟨w1.heap.size + 1, 0, none⟩ = some (.int .i64 gw) := k3.at_ 0 rfl
                have k3_1 : w5.cell? ⟨w1.heap.size + 1, 1, none⟩ = some (.int .i64 gh) := k3.at_ 1 rfl
                have k3_2 : w5.cell? ⟨w1.heap.size + 1, 2, none⟩ = some (.slice a2 l.length c2) := k3.at_ 2 rfl
                have k3_z : w1.heap.size + 1 < w5.heap.size := k3.lt
                have k4_0 : w5.cell? ⟨w3.heap.size, 0, none⟩ = some (.int .i64 0) := k4.at_ 0 rfl
                have k4_1 : w5.cell? ⟨w3.heap.size, 1, none⟩ = some (.int .i64 0) := k4.at_ 1 rfl
                have k4_2 : w5.cell? ⟨w3.heap.size, 2, none⟩ = some (.slice none 0 0) := k4.at_ 2 rfl
                have k4_z : w3.heap.size < w5.heap.size := k4.lt
                have k5_0 : w5.cell? ⟨w4.heap.size, 0, none⟩ = some (.int .i64 0) := k5.at_ 0 rfl
                have k5_1 : w5.cell? ⟨w4.heap.size, 1, none⟩ = some (.int .i64 0) := k5.at_ 1 rfl
                have k5_2 : w5.cell? ⟨w4.heap.size, 2, none⟩ = some (.slice none 0 0) := k5.at_ 2 rfl
                have k5_z : w4.heap.size < w5.heap.size := k5.lt
                go_wp2
                refine wp_loop_rounds 1 ?_
                rw [rounds_succ]
                go_wp2_with fail
                go_at_call 13
                refine (like_any _ _ _ _ _ _ _ _ _ _ _ s1 s2 true (by simp)).mono ?_
                rintro e w6 ⟨rfl, hb6⟩
                replace k0 : Blk w6 (W.heap.size) 24 #[.int .i64 sw, .int .i64 sh, .slice a zs.length c, .bool fill] := (k0).below hb6 (by first | omega | (simp; done) | (simp; omega))
                replace k1 : Blk w6 (W.heap.size + 1) 26 #[.int .i64 X, .int .i64 Y, .int .i64 rw, .int .i64 rh] := (k1).below hb6 (by first | omega | (simp; done) | (simp; omega))
                replace k2 : Blk w6 (w1.heap.size) 28 #[.int .i64 gw, .int .i64 gh, .slice a1 l.length c1] := (k2).below hb6 (by first | omega | (simp; done) | (simp; omega))
                replace k3 : Blk w6 (w1.heap.size + 1) 30 #[.int .i64 gw, .int .i64 gh, .slice a2 l.length c2] := (k3).below hb6 (by first | omega | (simp; done) | (simp; omega))
                replace k4 : Blk w6 (w3.heap.size) 28 #[.int .i64 0, .int .i64 0, .slice none 0 0] := (k4).below hb6 (by first | omega | (simp; done) | (simp; omega))
                replace k5 : Blk w6 (w4.heap.size) 30 #[.int .i64 0, .int .i64 0, .slice none 0 0] := (k5).below hb6 (by first | omega | (simp; done) | (simp; omega))
                replace s1 : SlI w6 .i64 8 l a1 c1 := (s1).below hb6 (by first | omega | (simp; done) | (simp; omega))
                replace s2 : SlI w6 .i64 8 l a2 c2 := (s2).below hb6 (by first | omega | (simp; done) | (simp; omega))
                have hB6 : Below W.heap.size W w6 := (hB5).trans (hb6.mono (by first | omega | (simp; done) | (simp; omega)))
                clear hB5
                have z6 := hb6.size
                try simp at z6
                clear k0_0 k0_1 k0_2 k0_3 k0_z k1_0 k1_1 k1_2 k1_3 k1_z k2_0 k2_1 k2_2 k2_z k3_0 k3_1 k3_2 k3_z k4_0 k4_1 k4_2 k4_z k5_0 k5_1 k5_2 k5_z
                have k0_0 : w6.cell? ⟨W.heap.size, 0, none⟩ = some (.int .i64 sw) := k0.at_ 0 rfl
                have k0_1 : w6.cell? ⟨W.heap.size, 1, none⟩ = some (.int .i64 sh) := k0.at_ 1 rfl
                have k0_2 : w6.cell? ⟨W.heap.size, 2, none⟩ = some (.slice a zs.length c) := k0.at_ 2 rfl
                have k0_3 : w6.cell? ⟨W.heap.size, 3, none⟩ = some (.bool fill) := k0.at_ 3 rfl
                have k0_z : W.heap.size < w6.heap.size := k0.lt
                have k1_0 : w6.cell? ⟨W.heap.size + 1, 0, none⟩ = some (.int .i64 X) := k1.at_ 0 rfl
                have k1_1 : w6.cell? ⟨W.heap.size + 1, 1, none⟩ = some (.int .i64 Y) := k1.at_ 1 rfl
                have k1_2 : w6.cell? ⟨W.heap.size + 1, 2, none⟩ = some (.int .i64 rw) := k1.at_ 2 rfl
                have k1_3 : w6.cell? ⟨W.heap.size + 1, 3, none⟩ = some (.int .i64 rh) := k1.at_ 3 rfl
                have k1_z : W.heap.size + 1 < w6.heap.size := k1.lt
                have k2_0 : w6.cell? ⟨w1.heap.size, 0, none⟩ = some (.int .i64 gw) := k2.at_ 0 rfl
                have k2_1 : w6.cell? ⟨w1.heap.size, 1, none⟩ = some (.int .i64 gh) := k2.at_ 1 rfl
                have k2_2 : w6.cell? ⟨w1.heap.size, 2, none⟩ = some (.slice a1 l.length c1) := k2.at_ 2 rfl
                have k2_z : w1.heap.size < w6.heap.size := k2.lt
                have k3_0 : w6.cell? ⟨w1.heap.size + 1, 0, none⟩ = some (.int .i64 gw) := k3.at_ 0 rfl
                have k3_1 : w6.cell? ⟨w1.heap.size + 1, 1, none⟩ = some (.int .i64 gh) := k3.at_ 1 rfl
                have k3_2 : w6.cell? ⟨w1.heap.size + 1, 2, none⟩ = some (.slice a2 l.length c2) := k3.at_ 2 rfl
                have k3_z : w1.heap.size + 1 < w6.heap.size := k3.lt
                have k4_0 : w6.cell? ⟨w3.heap.size, 0, none⟩ = some (.int .i64 0) := k4.at_ 0 rfl
                have k4_1 : w6.cell? ⟨w3.heap.size, 1, none⟩ = some (.int .i64 0) := k4.at_ 1 rfl
                have k4_2 : w6.cell? ⟨w3.heap.size, 2, none⟩ = some (.slice none 0 0) := k4.at_ 2 rfl
                have k4_z : w3.heap.size < w6.heap.size := k4.lt
                have k5_0 : w6.cell? ⟨w4.heap.size, 0, none⟩ = some (.int .i64 0) := k5.at_ 0 rfl
                have k5_1 : w6.cell? ⟨w4.heap.size, 1, none⟩ = some (.int .i64 0) := k5.at_ 1 rfl
                have k5_2 : w6.cell? ⟨w4.heap.size, 2, none⟩ = some (.slice none 0 0) := k5.at_ 2 rfl
                have k5_z : w4.heap.size < w6.heap.size := k5.lt
                go_wp2
                go_ret
                exact ⟨rfl, hB6⟩
        · rcases (show rh ≤ 100 ∨ 4194304 < rh by omega) with t2 | t2
          · by_cases t3 : 1099511627776 < X
            · go_wp2_with fail
              go_at_call 10
              refine (lives_ok _).mono ?_
              rintro e w2 ⟨rfl, hb2⟩
              replace k0 : Blk w2 (W.heap.size) 24 #[.int .i64 sw, .int .i64 sh, .slice a zs.length c, .bool fill] := (((k0.alloc _).alloc _)).below hb2 (by first | omega | (simp; done) | (simp; omega))
              replace k1 : Blk w2 (W.heap.size + 1) 26 #[.int .i64 X, .int .i64 Y, .int .i64 rw, .int .i64 rh] := (((k1.alloc _).alloc _)).below hb2 (by first | omega | (simp; done) | (simp; omega))
              have k2 : Blk w2 (w1.heap.size) 28 #[.int .i64 gw, .int .i64 gh, .slice a1 l.length c1] := (((Blk.new _ _ _ (by first | rfl | simp)).alloc _)).below hb2 (by first | omega | (simp; done) | (simp; omega))
              have k3 : Blk w2 (w1.heap.size + 1) 30 #[.int .i64 gw, .int .i64 gh, .slice a2 l.length c2] := ((Blk.new _ _ _ (by first | rfl | simp))).below hb2 (by first | omega | (simp; done) | (simp; omega))
              replace s1 : SlI w2 .i64 8 l a1 c1 := (((s1.alloc _).alloc _)).below hb2 (by first | omega | (simp; done) | (simp; omega))
              replace s2 : SlI w2 .i64 8 l a2 c2 := (((s2.alloc _).alloc _)).below hb2 (by first | omega | (simp; done) | (simp; omega))
              have hB2 : Below W.heap.size W w2 := (((hB1.alloc (by first | omega | (simp; done) | (simp; omega)) _).alloc (by first | omega | (simp; done) | (simp; omega)) _)).trans (hb2.mono (by first | omega | (simp; done) | (simp; omega)))
              clear hB1
              have z2 := hb2.size
              try simp at z2
              clear k0_0 k0_1 k0_2 k0_3 k0_z k1_0 k1_1 k1_2 k1_3 k1_z
              have k0_0 : w2.cell? ⟨W.heap.size, 0, none⟩ = some (.int .i64 sw) := k0.at_ 0 rfl
              have k0_1 : w2.cell? ⟨W.heap.size, 1, none⟩ = some (.int .i64 sh) := k0.at_ 1 rfl
              have k0_2 : w2.cell? ⟨W.heap.size, 2, none⟩ = some (.slice a zs.length c) := k0.at_ 2 rfl
              have k0_3 : w2.cell? ⟨W.heap.size, 3, none⟩ = some (.bool fill) := k0.at_ 3 rfl
              have k0_z : W.heap.size < w2.heap.size := k0.lt
              have k1_0 : w2.cell? ⟨W.heap.size + 1, 0, none⟩ = some (.int .i64 X) := k1.at_ 0 rfl
              have k1_1 : w2.cell? ⟨W.heap.size + 1, 1, none⟩ = some (.int .i64 Y) := k1.at_ 1 rfl
              have k1_2 : w2.cell? ⟨W.heap.size + 1, 2, none⟩ = some (.int .i64 rw) := k1.at_ 2 rfl
              have k1_3 : w2.cell? ⟨W.heap.size + 1, 3, none⟩ = some (.int .i64 rh) := k1.at_ 3 rfl
              have k1_z : W.heap.size + 1 < w2.heap.size := k1.lt
              have k2_0 : w2.cell? ⟨w1.heap.size, 0, none⟩ = some (.int .i64 gw) := k2.at_ 0 rfl
              have k2_1 : w2.cell? ⟨w1.heap.size, 1, none⟩ = some (.int .i64 gh) := k2.at_ 1 rfl
              have k2_2 : w2.cell? ⟨w1.heap.size, 2, none⟩ = some (.slice a1 l.length c1) := k2.at_ 2 rfl
              have k2_z : w1.heap.size < w2.heap.size := k2.lt
              have k3_0 : w2.cell? ⟨w1.heap.size + 1, 0, none⟩ = some (.int .i64 gw) := k3.at_ 0 rfl
              have k3_1 : w2.cell? ⟨w1.heap.size + 1, 1, none⟩ = some (.int .i64 gh) := k3.at_ 1 rfl
              have k3_2 : w2.cell? ⟨w1.heap.size + 1, 2, none⟩ = some (.slice a2 l.length c2) := k3.at_ 2 rfl
              have k3_z : w1.heap.size + 1 < w2.heap.size := k3.lt
              go_wp2_with fail
              go_at_call 10
              refine (lives_ok _).mono ?_
              rintro e w3 ⟨rfl, hb3⟩
              replace k0 : Blk w3 (W.heap.size) 24 #[.int .i64 sw, .int .i64 sh, .slice a zs.length c, .bool fill] := (k0).below hb3 (by first | omega | (simp; done) | (simp; omega))
              replace k1 : Blk w3 (W.heap.size + 1) 26 #[.int .i64 X, .int .i64 Y, .int .i64 rw, .int .i64 rh] := (k1).below hb3 (by first | omega | (simp; done) | (simp; omega))
              replace k2 : Blk w3 (w1.heap.size) 28 #[.int .i64 gw, .int .i64 gh, .slice a1 l.length c1] := (k2).below hb3 (by first | omega | (simp; done) | (simp; omega))
              replace k3 : Blk w3 (w1.heap.size + 1) 30 #[.int .i64 gw, .int .i64 gh, .slice a2 l.length c2] := (k3).below hb3 (by first | omega | (simp; done) | (simp; omega))
              replace s1 : SlI w3 .i64 8 l a1 c1 := (s1).below hb3 (by first | omega | (simp; done) | (simp; omega))
              replace s2 : SlI w3 .i64 8 l a2 c2 := (s2).below hb3 (by first | omega | (simp; done) | (simp; omega))
              have hB3 : Below W.heap.size W w3 := (hB2).trans (hb3.mono (by first | omega | (simp; done) | (simp; omega)))
              clear hB2
              have z3 := hb3.size
              try simp at z3
              clear k0_0 k0_1 k0_2 k0_3 k0_z k1_0 k1_1 k1_2 k1_3 k1_z k2_0 k2_1 k2_2 k2_z k3_0 k3_1 k3_2 k3_z
              have k0_0 : w3.cell? ⟨W.heap.size, 0, none⟩ = some (.int .i64 sw) := k0.at_ 0 rfl
              have k0_1 : w3.cell? ⟨W.heap.size, 1, none⟩ = some (.int .i64 sh) := k0.at_ 1 rfl
              have k0_2 : w3.cell? ⟨W.heap.size, 2, none⟩ = some (.slice a zs.length c) := k0.at_ 2 rfl
              have k0_3 : w3.cell? ⟨W.heap.size, 3, none⟩ = some (.bool fill) := k0.at_ 3 rfl
              have k0_z : W.heap.size < w3.heap.size := k0.lt
              have k1_0 : w3.cell? ⟨W.heap.size + 1, 0, none⟩ = some (.int .i64 X) := k1.at_ 0 rfl
              have k1_1 : w3.cell? ⟨W.heap.size + 1, 1, none⟩ = some (.int .i64 Y) := k1.at_ 1 rfl
              have k1_2 : w3.cell? ⟨W.heap.size + 1, 2, none⟩ = some (.int .i64 rw) := k1.at_ 2 rfl
              have k1_3 : w3.cell? ⟨W.heap.size + 1, 3, none⟩ = some (.int .i64 rh) := k1.at_ 3 rfl
              have k1_z : W.heap.size + 1 < w3.heap.size := k1.lt
              have k2_0 : w3.cell? ⟨w1.heap.size, 0, none⟩ = some (.int .i64 gw) := k2.at_ 0 rfl
              have k2_1 : w3.cell? ⟨w1.heap.size, 1, none⟩ = some (.int .i64 gh) := k2.at_ 1 rfl
              have k2_2 : w3.cell? ⟨w1.heap.size, 2, none⟩ = some (.slice a1 l.length c1) := k2.at_ 2 rfl
              have k2_z : w1.heap.size < w3.heap.size := k2.lt
              have k3_0 : w3.cell? ⟨w1.heap.size + 1, 0, none⟩ = some (.int .i64 gw) := k3.at_ 0 rfl
              have k3_1 : w3.cell? ⟨w1.heap.size + 1, 1, none⟩ = some (.int .i64 gh) := k3.at_ 1 rfl
              have k3_2 : w3.cell? ⟨w1.heap.size + 1, 2, none⟩ = some (.slice a2 l.length c2) := k3.at_ 2 rfl
              have k3_z : w1.heap.size + 1 < w3.heap.size := k3.lt
              go_wp2
              go_ret
              exact ⟨rfl, hB3⟩
            · by_cases t4 : 1099511627776 < Y
              · go_wp2_with fail
                go_at_call 10
                refine (lives_ok _).mono ?_
                rintro e w2 ⟨rfl, hb2⟩
                replace k0 : Blk w2 (W.heap.size) 24 #[.int .i64 sw, .int .i64 sh, .slice a zs.length c, .bool fill] := (((k0.alloc _).alloc _)).below hb2 (by first | omega | (simp; done) | (simp; omega))
                replace k1 : Blk w2 (W.heap.size + 1) 26 #[.int .i64 X, .int .i64 Y, .int .i64 rw, .int .i64 rh] := (((k1.alloc _).alloc _)).below hb2 (by first | omega | (simp; done) | (simp; omega))
                have k2 : Blk w2 (w1.heap.size) 28 #[.int .i64 gw, .int .i64 gh, .slice a1 l.length c1] := (((Blk.new _ _ _ (by first | rfl | simp)).alloc _)).below hb2 (by first | omega | (simp; done) | (simp; omega))
                have k3 : Blk w2 (w1.heap.size + 1) 30 #[.int .i64 gw, .int .i64 gh, .slice a2 l.length c2] := ((Blk.new _ _ _ (by first | rfl | simp))).below hb2 (by first | omega | (simp; done) | (simp; omega))
                replace s1 : SlI w2 .i64 8 l a1 c1 := (((s1.alloc _).alloc _)).below hb2 (by first | omega | (simp; done) | (simp; omega))
                replace s2 : SlI w2 .i64 8 l a2 c2 := (((s2.alloc _).alloc _)).below hb2 (by first | omega | (simp; done) | (simp; omega))
                have hB2 : Below W.heap.size W w2 := (((hB1.alloc (by first | omega | (simp; done) | (simp; omega)) _).alloc (by first | omega | (simp; done) | (simp; omega)) _)).trans (hb2.mono (by first | omega | (simp; done) | (simp; omega)))
                clear hB1
                have z2 := hb2.size
                try simp at z2
                clear k0_0 k0_1 k0_2 k0_3 k0_z k1_0 k1_1 k1_2 k1_3 k1_z
                have k0_0 : w2.cell? ⟨W.heap.size, 0, none⟩ = some (.int .i64 sw) := k0.at_ 0 rfl
                have k0_1 : w2.cell? ⟨W.heap.size, 1, none⟩ = some (.int .i64 sh) := k0.at_ 1 rfl
                have k0_2 : w2.cell? ⟨W.heap.size, 2, none⟩ = some (.slice a zs.length c) := k0.at_ 2 rfl
                have k0_3 : w2.cell? ⟨W.heap.size, 3, none⟩ = some (.bool fill) := k0.at_ 3 rfl
                have k0_z : W.heap.size < w2.heap.size := k0.lt
                have k1_0 : w2.cell? ⟨W.heap.size + 1, 0, none⟩ = some (.int .i64 X) := k1.at_ 0 rfl
                have k1_1 : w2.cell? ⟨W.heap.size + 1, 1, none⟩ = some (.int .i64 Y) := k1.at_ 1 rfl
                have k1_2 : w2.cell? ⟨W.heap.size + 1, 2, none⟩ = some (.int .i64 rw) := k1.at_ 2 rfl
                have k1_3 : w2.cell? ⟨W.heap.size + 1, 3, none⟩ = some (.int .i64 rh) := k1.at_ 3 rfl
                have k1_z : W.heap.size + 1 < w2.heap.size := k1.lt
                have k2_0 : w2.cell? ⟨w1.heap.size, 0, none⟩ = some (.int .i64 gw) := k2.at_ 0 rfl
                have k2_1 : w2.cell? ⟨w1.heap.size, 1, none⟩ = some (.int .i64 gh) := k2.at_ 1 rfl
                have k2_2 : w2.cell? ⟨w1.heap.size, 2, none⟩ = some (.slice a1 l.length c1) := k2.at_ 2 rfl
                have k2_z : w1.heap.size < w2.heap.size := k2.lt
                have k3_0 : w2.cell? ⟨w1.heap.size + 1, 0, none⟩ = some (.int .i64 gw) := k3.at_ 0 rfl
                have k3_1 : w2.cell? ⟨w1.heap.size + 1, 1, none⟩ = some (.int .i64 gh) := k3.at_ 1 rfl
                have k3_2 : w2.cell? ⟨w1.heap.size + 1, 2, none⟩ = some (.slice a2 l.length c2) := k3.at_ 2 rfl
                have k3_z : w1.heap.size + 1 < w2.heap.size := k3.lt
                go_wp2_with fail
                go_at_call 10
                refine (lives_ok _).mono ?_
                rintro e w3 ⟨rfl, hb3⟩
                replace k0 : Blk w3 (W.heap.size) 24 #[.int .i64 sw, .int .i64 sh, .slice a zs.length c, .bool fill] := (k0).below hb3 (by first | omega | (simp; done) | (simp; omega))
                replace k1 : Blk w3 (W.heap.size + 1) 26 #[.int .i64 X, .int .i64 Y, .int .i64 rw, .int .i64 rh] := (k1).below hb3 (by first | omega | (simp; done) | (simp; omega))
                replace k2 : Blk w3 (w1.heap.size) 28 #[.int .i64 gw, .int .i64 gh, .slice a1 l.length c1] := (k2).below hb3 (by first | omega | (simp; done) | (simp; omega))
                replace k3 : Blk w3 (w1.heap.size + 1) 30 #[.int .i64 gw, .int .i64 gh, .slice a2 l.length c2] := (k3).below hb3 (by first | omega | (simp; done) | (simp; omega))
                replace s1 : SlI w3 .i64 8 l a1 c1 := (s1).below hb3 (by first | omega | (simp; done) | (simp; omega))
                replace s2 : SlI w3 .i64 8 l a2 c2 := (s2).below hb3 (by first | omega | (simp; done) | (simp; omega))
                have hB3 : Below W.heap.size W w3 := (hB2).trans (hb3.mono (by first | omega | (simp; done) | (simp; omega)))
                clear hB2
                have z3 := hb3.size
                try simp at z3
                clear k0_0 k0_1 k0_2 k0_3 k0_z k1_0 k1_1 k1_2 k1_3 k1_z k2_0 k2_1 k2_2 k2_z k3_0 k3_1 k3_2 k3_z
                have k0_0 : w3.cell? ⟨W.heap.size, 0, none⟩ = some (.int .i64 sw) := k0.at_ 0 rfl
                have k0_1 : w3.cell? ⟨W.heap.size, 1, none⟩ = some (.int .i64 sh) := k0.at_ 1 rfl
                have k0_2 : w3.cell? ⟨W.heap.size, 2, none⟩ = some (.slice a zs.length c) := k0.at_ 2 rfl
                have k0_3 : w3.cell? ⟨W.heap.size, 3, none⟩ = some (.bool fill) := k0.at_ 3 rfl
                have k0_z : W.heap.size < w3.heap.size := k0.lt
                have k1_0 : w3.cell? ⟨W.heap.size + 1, 0, none⟩ = some (.int .i64 X) := k1.at_ 0 rfl
                have k1_1 : w3.cell? ⟨W.heap.size + 1, 1, none⟩ = some (.int .i64 Y) := k1.at_ 1 rfl
                have k1_2 : w3.cell? ⟨W.heap.size + 1, 2, none⟩ = some (.int .i64 rw) := k1.at_ 2 rfl
                have k1_3 : w3.cell? ⟨W.heap.size + 1, 3, none⟩ = some (.int .i64 rh) := k1.at_ 3 rfl
                have k1_z : W.heap.size + 1 < w3.heap.size := k1.lt
                have k2_0 : w3.cell? ⟨w1.heap.size, 0, none⟩ = some (.int .i64 gw) := k2.at_ 0 rfl
                have k2_1 : w3.cell? ⟨w1.heap.size, 1, none⟩ = some (.int .i64 gh) := k2.at_ 1 rfl
                have k2_2 : w3.cell? ⟨w1.heap.size, 2, none⟩ = some (.slice a1 l.length c1) := k2.at_ 2 rfl
                have k2_z : w1.heap.size < w3.heap.size := k2.lt
                have k3_0 : w3.cell? ⟨w1.heap.size + 1, 0, none⟩ = some (.int .i64 gw) := k3.at_ 0 rfl
                have k3_1 : w3.cell? ⟨w1.heap.size + 1, 1, none⟩ = some (.int .i64 gh) := k3.at_ 1 rfl
                have k3_2 : w3.cell? ⟨w1.heap.size + 1, 2, none⟩ = some (.slice a2 l.length c2) := k3.at_ 2 rfl
                have k3_z : w1.heap.size + 1 < w3.heap.size := k3.lt
                go_wp2
                go_ret
                exact ⟨rfl, hB3⟩
              · have HN : Hid ((fitsB rw rh && hasB gw gh l.length X Y) = false) := by
                  have : fitsB rw rh = false := by unfold fitsB; exact decide_eq_false (by omega)
                  unfold Hid; rw [this]; rfl
                go_wp2_with fail
                go_at_call 10
                refine (lives_ok _).mono ?_
                rintro e w2 ⟨rfl, hb2⟩
                replace k0 : Blk w2 (W.heap.size) 24 #[.int .i64 sw, .int .i64 sh, .slice a zs.length c, .bool fill] := (((k0.alloc _).alloc _)).below hb2 (by first | omega | (simp; done) | (simp; omega))
                replace k1 : Blk w2 (W.heap.size + 1) 26 #[.int .i64 X, .int .i64 Y, .int .i64 rw, .int .i64 rh] := (((k1.alloc _).alloc _)).below hb2 (by first | omega | (simp; done) | (simp; omega))
                have k2 : Blk w2 (w1.heap.size) 28 #[.int .i64 gw, .int .i64 gh, .slice a1 l.length c1] := (((Blk.new _ _ _ (by first | rfl | simp)).alloc _)).below hb2 (by first | omega | (simp; done) | (simp; omega))
                have k3 : Blk w2 (w1.heap.size + 1) 30 #[.int .i64 gw, .int .i64 gh, .slice a2 l.length c2] := ((Blk.new _ _ _ (by first | rfl | simp))).below hb2 (by first | omega | (simp; done) | (simp; omega))
                replace s1 : SlI w2 .i64 8 l a1 c1 := (((s1.alloc _).alloc _)).below hb2 (by first | omega | (simp; done) | (simp; omega))
                replace s2 : SlI w2 .i64 8 l a2 c2 := (((s2.alloc _).alloc _)).below hb2 (by first | omega | (simp; done) | (simp; omega))
                have hB2 : Below W.heap.size W w2 := (((hB1.alloc (by first | omega | (simp; done) | (simp; omega)) _).alloc (by first | omega | (simp; done) | (simp; omega)) _)).trans (hb2.mono (by first | omega | (simp; done) | (simp; omega)))
                clear hB1
                have z2 := hb2.size
                try simp at z2
                clear k0_0 k0_1 k0_2 k0_3 k0_z k1_0 k1_1 k1_2 k1_3 k1_z
                have k0_0 : w2.cell? ⟨W.heap.size, 0, none⟩ = some (.int .i64 sw) := k0.at_ 0 rfl
                have k0_1 : w2.cell? ⟨W.heap.size, 1, none⟩ = some (.int .i64 sh) := k0.at_ 1 rfl
                have k0_2 : w2.cell? ⟨W.heap.size, 2, none⟩ = some (.slice a zs.length c) := k0.at_ 2 rfl
                have k0_3 : w2.cell? ⟨W.heap.size, 3, none⟩ = some (.bool fill) := k0.at_ 3 rfl
                have k0_z : W.heap.size < w2.heap.size := k0.lt
                have k1_0 : w2.cell? ⟨W.heap.size + 1, 0, none⟩ = some (.int .i64 X) := k1.at_ 0 rfl
                have k1_1 : w2.cell? ⟨W.heap.size + 1, 1, none⟩ = some (.int .i64 Y) := k1.at_ 1 rfl
                have k1_2 : w2.cell? ⟨W.heap.size + 1, 2, none⟩ = some (.int .i64 rw) := k1.at_ 2 rfl
                have k1_3 : w2.cell? ⟨W.heap.size + 1, 3, none⟩ = some (.int .i64 rh) := k1.at_ 3 rfl
                have k1_z : W.heap.size + 1 < w2.heap.size := k1.lt
                have k2_0 : w2.cell? ⟨w1.heap.size, 0, none⟩ = some (.int .i64 gw) := k2.at_ 0 rfl
                have k2_1 : w2.cell? ⟨w1.heap.size, 1, none⟩ = some (.int .i64 gh) := k2.at_ 1 rfl
                have k2_2 : w2.cell? ⟨w1.heap.size, 2, none⟩ = some (.slice a1 l.length c1) := k2.at_ 2 rfl
                have k2_z : w1.heap.size < w2.heap.size := k2.lt
                have k3_0 : w2.cell? ⟨w1.heap.size + 1, 0, none⟩ = some (.int .i64 gw) := k3.at_ 0 rfl
                have k3_1 : w2.cell? ⟨w1.heap.size + 1, 1, none⟩ = some (.int .i64 gh) := k3.at_ 1 rfl
                have k3_2 : w2.cell? ⟨w1.heap.size + 1, 2, none⟩ = some (.slice a2 l.length c2) := k3.at_ 2 rfl
                have k3_z : w1.heap.size + 1 < w2.heap.size := k3.lt
                go_wp2_with fail
                go_at_call 11
                refine (cut_no _ _ _ _ _ _ _ _ _ _ (by omega) HN.out).mono ?_
                rintro e w3 ⟨rfl, hb3⟩
                replace k0 : Blk w3 (W.heap.size) 24 #[.int .i64 sw, .int .i64 sh, .slice a zs.length c, .bool fill] := (k0).below hb3 (by first | omega | (simp; done) | (simp; omega))
                replace k1 : Blk w3 (W.heap.size + 1) 26 #[.int .i64 X, .int .i64 Y, .int .i64 rw, .int .i64 rh] := (k1).below hb3 (by first | omega | (simp; done) | (simp; omega))
                replace k2 : Blk w3 (w1.heap.size) 28 #[.int .i64 gw, .int .i64 gh, .slice a1 l.length c1] := (k2).below hb3 (by first | omega | (simp; done) | (simp; omega))
                replace k3 : Blk w3 (w1.heap.size + 1) 30 #[.int .i64 gw, .int .i64 gh, .slice a2 l.length c2] := (k3).below hb3 (by first | omega | (simp; done) | (simp; omega))
                replace s1 : SlI w3 .i64 8 l a1 c1 := (s1).below hb3 (by first | omega | (simp; done) | (simp; omega))
                replace s2 : SlI w3 .i64 8 l a2 c2 := (s2).below hb3 (by first | omega | (simp; done) | (simp; omega))
                have hB3 : Below W.heap.size W w3 := (hB2).trans (hb3.mono (by first | omega | (simp; done) | (simp; omega)))
                clear hB2
                have z3 := hb3.size
                try simp at z3
                clear k0_0 k0_1 k0_2 k0_3 k0_z k1_0 k1_1 k1_2 k1_3 k1_z k2_0 k2_1 k2_2 k2_z k3_0 k3_1 k3_2 k3_z
                have k0_0 : w3.cell? ⟨W.heap.size, 0, none⟩ = some (.int .i64 sw) := k0.at_ 0 rfl
                have k0_1 : w3.cell? ⟨W.heap.size, 1, none⟩ = some (.int .i64 sh) := k0.at_ 1 rfl
                have k0_2 : w3.cell? ⟨W.heap.size, 2, none⟩ = some (.slice a zs.length c) := k0.at_ 2 rfl
                have k0_3 : w3.cell? ⟨W.heap.size, 3, none⟩ = some (.bool fill) := k0.at_ 3 rfl
                have k0_z : W.heap.size < w3.heap.size := k0.lt
                have k1_0 : w3.cell? ⟨W.heap.size + 1, 0, none⟩ = some (.int .i64 X) := k1.at_ 0 rfl
                have k1_1 : w3.cell? ⟨W.heap.size + 1, 1, none⟩ = some (.int .i64 Y) := k1.at_ 1 rfl
                have k1_2 : w3.cell? ⟨W.heap.size + 1, 2, none⟩ = some (.int .i64 rw) := k1.at_ 2 rfl
                have k1_3 : w3.cell? ⟨W.heap.size + 1, 3, none⟩ = some (.int .i64 rh) := k1.at_ 3 rfl
                have k1_z : W.heap.size + 1 < w3.heap.size := k1.lt
                have k2_0 : w3.cell? ⟨w1.heap.size, 0, none⟩ = some (.int .i64 gw) := k2.at_ 0 rfl
                have k2_1 : w3.cell? ⟨w1.heap.size, 1, none⟩ = some (.int .i64 gh) := k2.at_ 1 rfl
                have k2_2 : w3.cell? ⟨w1.heap.size, 2, none⟩ = some (.slice a1 l.length c1) := k2.at_ 2 rfl
                have k2_z : w1.heap.size < w3.heap.size := k2.lt
                have k3_0 : w3.cell? ⟨w1.heap.size + 1, 0, none⟩ = some (.int .i64 gw) := k3.at_ 0 rfl
                have k3_1 : w3.cell? ⟨w1.heap.size + 1, 1, none⟩ = some (.int .i64 gh) := k3.at_ 1 rfl
                have k3_2 : w3.cell? ⟨w1.heap.size + 1, 2, none⟩ = some (.slice a2 l.length c2) := k3.at_ 2 rfl
                have k3_z : w1.heap.size + 1 < w3.heap.size := k3.lt
                go_wp2_with fail
                go_at_call 12
                refine (rcut_no _ _ _ _ _ _ _ _ _ _ (by omega) HN.out).mono ?_
                rintro e w4 ⟨rfl, hb4⟩
                replace k0 : Blk w4 (W.heap.size) 24 #[.int .i64 sw, .int .i64 sh, .slice a zs.length c, .bool fill] := ((k0.alloc _)).below hb4 (by first | omega | (simp; done) | (simp; omega))
                replace k1 : Blk w4 (W.heap.size + 1) 26 #[.int .i64 X, .int .i64 Y, .int .i64 rw, .int .i64 rh] := ((k1.alloc _)).below hb4 (by first | omega | (simp; done) | (simp; omega))
                replace k2 : Blk w4 (w1.heap.size) 28 #[.int .i64 gw, .int .i64 gh, .slice a1 l.length c1] := ((k2.alloc _)).below hb4 (by first | omega | (simp; done) | (simp; omega))
                replace k3 : Blk w4 (w1.heap.size + 1) 30 #[.int .i64 gw, .int .i64 gh, .slice a2 l.length c2] := ((k3.alloc _)).below hb4 (by first | omega | (simp; done) | (simp; omega))
                have k4 : Blk w4 (w3.heap.size) 28 #[.int .i64 0, .int .i64 0, .slice none 0 0] := ((Blk.new _ _ _ (by first | rfl | simp))).below hb4 (by first | omega | (simp; done) | (simp; omega))
                replace s1 : SlI w4 .i64 8 l a1 c1 := ((s1.alloc _)).below hb4 (by first | omega | (simp; done) | (simp; omega))
                replace s2 : SlI w4 .i64 8 l a2 c2 := ((s2.alloc _)).below hb4 (by first | omega | (simp; done) | (simp; omega))
                have hB4 : Below W.heap.size W w4 := ((hB3.alloc (by first | omega | (simp; done) | (simp; omega)) _)).trans (hb4.mono (by first | omega | (simp; done) | (simp; omega)))
                clear hB3
                have z4 := hb4.size
                try simp at z4
                clear k0_0 k0_1 k0_2 k0_3 k0_z k1_0 k1_1 k1_2 k1_3 k1_z k2_0 k2_1 k2_2 k2_z k3_0 k3_1 k3_2 k3_z
                have k0_0 : w4.cell? ⟨W.heap.size, 0, none⟩ = some (.int .i64 sw) := k0.at_ 0 rfl
                have k0_1 : w4.cell? ⟨W.heap.size, 1, none⟩ = some (.int .i64 sh) := k0.at_ 1 rfl
                have k0_2 : w4.cell? ⟨W.heap.size, 2, none⟩ = some (.slice a zs.length c) := k0.at_ 2 rfl
                have k0_3 : w4.cell? ⟨W.heap.size, 3, none⟩ = some (.bool fill) := k0.at_ 3 rfl
                have k0_z : W.heap.size < w4.heap.size := k0.lt
                have k1_0 : w4.cell? ⟨W.heap.size + 1, 0, none⟩ = some (.int .i64 X) := k1.at_ 0 rfl
                have k1_1 : w4.cell? ⟨W.heap.size + 1, 1, none⟩ = some (.int .i64 Y) := k1.at_ 1 rfl
                have k1_2 : w4.cell? ⟨W.heap.size + 1, 2, none⟩ = some (.int .i64 rw) := k1.at_ 2 rfl
                have k1_3 : w4.cell? ⟨W.heap.size + 1, 3, none⟩ = some (.int .i64 rh) := k1.at_ 3 rfl
                have k1_z : W.heap.size + 1 < w4.heap.size := k1.lt
                have k2_0 : w4.cell? ⟨w1.heap.size, 0, none⟩ = some (.int .i64 gw) := k2.at_ 0 rfl
                have k2_1 : w4.cell? ⟨w1.heap.size, 1, none⟩ = some (.int .i64 gh) := k2.at_ 1 rfl
                have k2_2 : w4.cell? ⟨w1.heap.size, 2, none⟩ = some (.slice a1 l.length c1) := k2.at_ 2 rfl
                have k2_z : w1.heap.size < w4.heap.size := k2.lt
                have k3_0 : w4.cell? ⟨w1.heap.size + 1, 0, none⟩ = some (.int .i64 gw) := k3.at_ 0 rfl
                have k3_1 : w4.cell? ⟨w1.heap.size + 1, 1, none⟩ = some (.int .i64 gh) := k3.at_ 1 rfl
                have k3_2 : w4.cell? ⟨w1.heap.size + 1, 2, none⟩ = some (.slice a2 l.length c2) := k3.at_ 2 rfl
                have k3_z : w1.heap.size + 1 < w4.heap.size := k3.lt
                have k4_0 : w4.cell? ⟨w3.heap.size, 0, none⟩ = some (.int .i64 0) := k4.at_ 0 rfl
                have k4_1 : w4.cell? ⟨w3.heap.size, 1, none⟩ = some (.int .i64 0) := k4.at_ 1 rfl
                have k4_2 : w4.cell? ⟨w3.heap.size, 2, none⟩ = some (.slice none 0 0) := k4.at_ 2 rfl
                have k4_z : w3.heap.size < w4.heap.size := k4.lt
                go_wp2_with fail
                go_at_call 13
                refine (like_any _ _ _ _ _ [] [] _ _ _ _ (SlI.nil _ _ _) (SlI.nil _ _ _) true (by decide)).mono ?_
                rintro e w5 ⟨rfl, hb5⟩
                replace k0 : Blk w5 (W.heap.size) 24 #[.int .i64 sw, .int .i64 sh, .slice a zs.length c, .bool fill] := ((k0.alloc _)).below hb5 (by first | omega | (simp; done) | (simp; omega))
                replace k1 : Blk w5 (W.heap.size + 1) 26 #[.int .i64 X, .int .i64 Y, .int .i64 rw, .int .i64 rh] := ((k1.alloc _)).below hb5 (by first | omega | (simp; done) | (simp; omega))
                replace k2 : Blk w5 (w1.heap.size) 28 #[.int .i64 gw, .int .i64 gh, .slice a1 l.length c1] := ((k2.alloc _)).below hb5 (by first | omega | (simp; done) | (simp; omega))
                replace k3 : Blk w5 (w1.heap.size + 1) 30 #[.int .i64 gw, .int .i64 gh, .slice a2 l.length c2] := ((k3.alloc _)).below hb5 (by first | omega | (simp; done) | (simp; omega))
                replace k4 : Blk w5 (w3.heap.size) 28 #[.int .i64 0, .int .i64 0, .slice none 0 0] := ((k4.alloc _)).below hb5 (by first | omega | (simp; done) | (simp; omega))
                have k5 : Blk w5 (w4.heap.size) 30 #[.int .i64 0, .int .i64 0, .slice none 0 0] := ((Blk.new _ _ _ (by first | rfl | simp))).below hb5 (by first | omega | (simp; done) | (simp; omega))
                replace s1 : SlI w5 .i64 8 l a1 c1 := ((s1.alloc _)).below hb5 (by first | omega | (simp; done) | (simp; omega))
                replace s2 : SlI w5 .i64 8 l a2 c2 := ((s2.alloc _)).below hb5 (by first | omega | (simp; done) | (simp; omega))
                have hB5 : Below W.heap.size W w5 := ((hB4.alloc (by first | omega | (simp; done) | (simp; omega)) _)).trans (hb5.mono (by first | omega | (simp; done) | (simp; omega)))
                clear hB4
                have z5 := hb5.size
                try simp at z5
                clear k0_0 k0_1 k0_2 k0_3 k0_z k1_0 k1_1 k1_2 k1_3 k1_z k2_0 k2_1 k2_2 k2_z k3_0 k3_1 k3_2 k3_z k4_0 k4_1 k4_2 k4_z
                have k0_0 : w5.cell? ⟨W.heap.size, 0, none⟩ = some (.int .i64 sw) := k0.at_ 0 rfl
                have k0_1 : w5.cell? ⟨W.heap.size, 1, none⟩ = some (.int .i64 sh) := k0.at_ 1 rfl
                have k0_2 : w5.cell? ⟨W.heap.size, 2, none⟩ = some (.slice a zs.length c) := k0.at_ 2 rfl
                have k0_3 : w5.cell? ⟨W.heap.size, 3, none⟩ = some (.bool fill) := k0.at_ 3 rfl
                have k0_z : W.heap.size < w5.heap.size := k0.lt
                have k1_0 : w5.cell? ⟨W.heap.size + 1, 0, none⟩ = some (.int .i64 X) := k1.at_ 0 rfl
                have k1_1 : w5.cell? ⟨W.heap.size + 1, 1, none⟩ = some (.int .i64 Y) := k1.at_ 1 rfl
                have k1_2 : w5.cell? ⟨W.heap.size + 1, 2, none⟩ = some (.int .i64 rw) := k1.at_ 2 rfl
                have k1_3 : w5.cell? ⟨W.heap.size + 1, 3, none⟩ = some (.int .i64 rh) := k1.at_ 3 rfl
                have k1_z : W.heap.size + 1 < w5.heap.size := k1.lt
                have k2_0 : w5.cell? ⟨w1.heap.size, 0, none⟩ = some (.int .i64 gw) := k2.at_ 0 rfl
                have k2_1 : w5.cell? ⟨w1.heap.size, 1, none⟩ = some (.int .i64 gh) := k2.at_ 1 rfl
                have k2_2 : w5.cell? ⟨w1.heap.size, 2, none⟩ = some (.slice a1 l.length c1) := k2.at_ 2 rfl
                have k2_z : w1.heap.size < w5.heap.size := k2.lt
                have k3_0 : w5.cell? ⟨w1.heap.size + 1, 0, none⟩ = some (.int .i64 gw) := k3.at_ 0 rfl
                have k3_1 : w5.cell? ⟨w1.heap.size + 1, 1, none⟩ = some (.int .i64 gh) := k3.at_ 1 rfl
                have k3_2 : w5.cell? ⟨w1.heap.size + 1, 2, none⟩ = some (.slice a2 l.length c2) := k3.at_ 2 rfl
                have k3_z : w1.heap.size + 1 < w5.heap.size := k3.lt
                have k4_0 : w5.cell? ⟨w3.heap.size, 0, none⟩ = some (.int .i64 0) := k4.at_ 0 rfl
                have k4_1 : w5.cell? ⟨w3.heap.size, 1, none⟩ = some (.int .i64 0) := k4.at_ 1 rfl
                have k4_2 : w5.cell? ⟨w3.heap.size, 2, none⟩ = some (.slice none 0 0) := k4.at_ 2 rfl
                have k4_z : w3.heap.size < w5.heap.size := k4.lt
                have k5_0 : w5.cell? ⟨w4.heap.size, 0, none⟩ = some (.int .i64 0) := k5.at_ 0 rfl
                have k5_1 : w5.cell? ⟨w4.heap.size, 1, none⟩ = some (.int .i64 0) := k5.at_ 1 rfl
                have k5_2 : w5.cell? ⟨w4.heap.size, 2, none⟩ = some (.slice none 0 0) := k5.at_ 2 rfl
                have k5_z : w4.heap.size < w5.heap.size := k5.lt
                go_wp2
                refine wp_loop_rounds 1 ?_
                rw [rounds_succ]
                go_wp2_with fail
                go_at_call 13
                refine (like_any _ _ _ _ _ _ _ _ _ _ _ s1 s2 true (by simp)).mono ?_
                rintro e w6 ⟨rfl, hb6⟩
                replace k0 : Blk w6 (W.heap.size) 24 #[.int .i64 sw, .int .i64 sh, .slice a zs.length c, .bool fill] := (k0).below hb6 (by first | omega | (simp; done) | (simp; omega))
                replace k1 : Blk w6 (W.heap.size + 1) 26 #[.int .i64 X, .int .i64 Y, .int .i64 rw, .int .i64 rh] := (k1).below hb6 (by first | omega | (simp; done) | (simp; omega))
                replace k2 : Blk w6 (w1.heap.size) 28 #[.int .i64 gw, .int .i64 gh, .slice a1 l.length c1] := (k2).below hb6 (by first | omega | (simp; done) | (simp; omega))
                replace k3 : Blk w6 (w1.heap.size + 1) 30 #[.int .i64 gw, .int .i64 gh, .slice a2 l.length c2] := (k3).below hb6 (by first | omega | (simp; done) | (simp; omega))
                replace k4 : Blk w6 (w3.heap.size) 28 #[.int .i64 0, .int .i64 0, .slice none 0 0] := (k4).below hb6 (by first | omega | (simp; done) | (simp; omega))
                replace k5 : Blk w6 (w4.heap.size) 30 #[.int .i64 0, .int .i64 0, .slice none 0 0] := (k5).below hb6 (by first | omega | (simp; done) | (simp; omega))
                replace s1 : SlI w6 .i64 8 l a1 c1 := (s1).below hb6 (by first | omega | (simp; done) | (simp; omega))
                replace s2 : SlI w6 .i64 8 l a2 c2 := (s2).below hb6 (by first | omega | (simp; done) | (simp; omega))
                have hB6 : Below W.heap.size W w6 := (hB5).trans (hb6.mono (by first | omega | (simp; done) | (simp; omega)))
                clear hB5
                have z6 := hb6.size
                try simp at z6
                clear k0_0 k0_1 k0_2 k0_3 k0_z k1_0 k1_1 k1_2 k1_3 k1_z k2_0 k2_1 k2_2 k2_z k3_0 k3_1 k3_2 k3_z k4_0 k4_1 k4_2 k4_z k5_0 k5_1 k5_2 k5_z
                have k0_0 : w6.cell? ⟨W.heap.size, 0, none⟩ = some (.int .i64 sw) := k0.at_ 0 rfl
                have k0_1 : w6.cell? ⟨W.heap.size, 1, none⟩ = some (.int .i64 sh) := k0.at_ 1 rfl
                have k0_2 : w6.cell? ⟨W.heap.size, 2, none⟩ = some (.slice a zs.length c) := k0.at_ 2 rfl
                have k0_3 : w6.cell? ⟨W.heap.size, 3, none⟩ = some (.bool fill) := k0.at_ 3 rfl
                have k0_z : W.heap.size < w6.heap.size := k0.lt
                have k1_0 : w6.cell? ⟨W.heap.size + 1, 0, none⟩ = some (.int .i64 X) := k1.at_ 0 rfl
                have k1_1 : w6.cell? ⟨W.heap.size + 1, 1, none⟩ = some (.int .i64 Y) := k1.at_ 1 rfl
                have k1_2 : w6.cell? ⟨W.heap.size + 1, 2, none⟩ = some (.int .i64 rw) := k1.at_ 2 rfl
                have k1_3 : w6.cell? ⟨W.heap.size + 1, 3, none⟩ = some (.int .i64 rh) := k1.at_ 3 rfl
                have k1_z : W.heap.size + 1 < w6.heap.size := k1.lt
                have k2_0 : w6.cell? ⟨w1.heap.size, 0, none⟩ = some (.int .i64 gw) := k2.at_ 0 rfl
                have k2_1 : w6.cell? ⟨w1.heap.size, 1, none⟩ = some (.int .i64 gh) := k2.at_ 1 rfl
                have k2_2 : w6.cell? ⟨w1.heap.size, 2, none⟩ = some (.slice a1 l.length c1) := k2.at_ 2 rfl
                have k2_z : w1.heap.size < w6.heap.size := k2.lt
                have k3_0 : w6.cell? ⟨w1.heap.size + 1, 0, none⟩ = some (.int .i64 gw) := k3.at_ 0 rfl
                have k3_1 : w6.cell? ⟨w1.heap.size + 1, 1, none⟩ = some (.int .i64 gh) := k3.at_ 1 rfl
                have k3_2 : w6.cell? ⟨w1.heap.size + 1, 2, none⟩ = some (.slice a2 l.length c2) := k3.at_ 2 rfl
                have k3_z : w1.heap.size + 1 < w6.heap.size := k3.lt
                have k4_0 : w6.cell? ⟨w3.heap.size, 0, none⟩ = some (.int .i64 0) := k4.at_ 0 rfl
                have k4_1 : w6.cell? ⟨w3.heap.size, 1, none⟩ = some (.int .i64 0) := k4.at_ 1 rfl
                have k4_2 : w6.cell? ⟨w3.heap.size, 2, none⟩ = some (.slice none 0 0) := k4.at_ 2 rfl
                have k4_z : w3.heap.size < w6.heap.size := k4.lt
                have k5_0 : w6.cell? ⟨w4.heap.size, 0, none⟩ = some (.int .i64 0) := k5.at_ 0 rfl
                have k5_1 : w6.cell? ⟨w4.heap.size, 1, none⟩ = some (.int .i64 0) := k5.at_ 1 rfl
                have k5_2 : w6.cell? ⟨w4.heap.size, 2, none⟩ = some (.slice none 0 0) := k5.at_ 2 rfl
                have k5_z : w4.heap.size < w6.heap.size := k5.lt
                go_wp2
                go_ret
                exact ⟨rfl, hB6⟩
          · by_cases t3 : 1099511627776 < X
            · go_wp2_with fail
              go_at_call 10
              refine (lives_ok _).mono ?_
              rintro e w2 ⟨rfl, hb2⟩
              replace k0 : Blk w2 (W.heap.size) 24 #[.int .i64 sw, .int .i64 sh, .slice a zs.length c, .bool fill] := (((k0.alloc _).alloc _)).below hb2 (by first | omega | (simp; done) | (simp; omega))
              replace k1 : Blk w2 (W.heap.size + 1) 26 #[.int .i64 X, .int .i64 Y, .int .i64 rw, .int .i64 rh] := (((k1.alloc _).alloc _)).below hb2 (by first | omega | (simp; done) | (simp; omega))
              have k2 : Blk w2 (w1.heap.size) 28 #[.int .i64 gw, .int .i64 gh, .slice a1 l.length c1] := (((Blk.new _ _ _ (by first | rfl | simp)).alloc _)).below hb2 (by first | omega | (simp; done) | (simp; omega))
              have k3 : Blk w2 (w1.heap.size + 1) 30 #[.int .i64 gw, .int .i64 gh, .slice a2 l.length c2] := ((Blk.new _ _ _ (by first | rfl | simp))).below hb2 (by first | omega | (simp; done) | (simp; omega))
              replace s1 : SlI w2 .i64 8 l a1 c1 := (((s1.alloc _).alloc _)).below hb2 (by first | omega | (simp; done) | (simp; omega))
              replace s2 : SlI w2 .i64 8 l a2 c2 := (((s2.alloc _).alloc _)).below hb2 (by first | omega | (simp; done) | (simp; omega))
              have hB2 : Below W.heap.size W w2 := (((hB1.alloc (by first | omega | (simp; done) | (simp; omega)) _).alloc (by first | omega | (simp; done) | (simp; omega)) _)).trans (hb2.mono (by first | omega | (simp; done) | (simp; omega)))
              clear hB1
              have z2 := hb2.size
              try simp at z2
              clear k0_0 k0_1 k0_2 k0_3 k0_z k1_0 k1_1 k1_2 k1_3 k1_z
              have k0_0 : w2.cell? ⟨W.heap.size, 0, none⟩ = some (.int .i64 sw) := k0.at_ 0 rfl
              have k0_1 : w2.cell? ⟨W.heap.size, 1, none⟩ = some (.int .i64 sh) := k0.at_ 1 rfl
              have k0_2 : w2.cell? ⟨W.heap.size, 2, none⟩ = some (.slice a zs.length c) := k0.at_ 2 rfl
              have k0_3 : w2.cell? ⟨W.heap.size, 3, none⟩ = some (.bool fill) := k0.at_ 3 rfl
              have k0_z : W.heap.size < w2.heap.size := k0.lt
              have k1_0 : w2.cell? ⟨W.heap.size + 1, 0, none⟩ = some (.int .i64 X) := k1.at_ 0 rfl
              have k1_1 : w2.cell? ⟨W.heap.size + 1, 1, none⟩ = some (.int .i64 Y) := k1.at_ 1 rfl
              have k1_2 : w2.cell? ⟨W.heap.size + 1, 2, none⟩ = some (.int .i64 rw) := k1.at_ 2 rfl
              have k1_3 : w2.cell? ⟨W.heap.size + 1, 3, none⟩ = some (.int .i64 rh) := k1.at_ 3 rfl
              have k1_z : W.heap.size + 1 < w2.heap.size := k1.lt
              have k2_0 : w2.cell? ⟨w1.heap.size, 0, none⟩ = some (.int .i64 gw) := k2.at_ 0 rfl
              have k2_1 : w2.cell? ⟨w1.heap.size, 1, none⟩ = some (.int .i64 gh) := k2.at_ 1 rfl
              have k2_2 : w2.cell? ⟨w1.heap.size, 2, none⟩ = some (.slice a1 l.length c1) := k2.at_ 2 rfl
              have k2_z : w1.heap.size < w2.heap.size := k2.lt
              have k3_0 : w2.cell? ⟨w1.heap.size + 1, 0, none⟩ = some (.int .i64 gw) := k3.at_ 0 rfl
              have k3_1 : w2.cell? ⟨w1.heap.size + 1, 1, none⟩ = some (.int .i64 gh) := k3.at_ 1 rfl
              have k3_2 : w2.cell? ⟨w1.heap.size + 1, 2, none⟩ = some (.slice a2 l.length c2) := k3.at_ 2 rfl
              have k3_z : w1.heap.size + 1 < w2.heap.size := k3.lt
              go_wp2_with fail
              go_at_call 10
              refine (lives_ok _).mono ?_
              rintro e w3 ⟨rfl, hb3⟩
              replace k0 : Blk w3 (W.heap.size) 24 #[.int .i64 sw, .int .i64 sh, .slice a zs.length c, .bool fill] := (k0).below hb3 (by first | omega | (simp; done) | (simp; omega))
              replace k1 : Blk w3 (W.heap.size + 1) 26 #[.int .i64 X, .int .i64 Y, .int .i64 rw, .int .i64 rh] := (k1).below hb3 (by first | omega | (simp; done) | (simp; omega))
              replace k2 : Blk w3 (w1.heap.size) 28 #[.int .i64 gw, .int .i64 gh, .slice a1 l.length c1] := (k2).below hb3 (by first | omega | (simp; done) | (simp; omega))
              replace k3 : Blk w3 (w1.heap.size + 1) 30 #[.int .i64 gw, .int .i64 gh, .slice a2 l.length c2] := (k3).below hb3 (by first | omega | (simp; done) | (simp; omega))
              replace s1 : SlI w3 .i64 8 l a1 c1 := (s1).below hb3 (by first | omega | (simp; done) | (simp; omega))
              replace s2 : SlI w3 .i64 8 l a2 c2 := (s2).below hb3 (by first | omega | (simp; done) | (simp; omega))
              have hB3 : Below W.heap.size W w3 := (hB2).trans (hb3.mono (by first | omega | (simp; done) | (simp; omega)))
              clear hB2
              have z3 := hb3.size
              try simp at z3
              clear k0_0 k0_1 k0_2 k0_3 k0_z k1_0 k1_1 k1_2 k1_3 k1_z k2_0 k2_1 k2_2 k2_z k3_0 k3_1 k3_2 k3_z
              have k0_0 : w3.cell? ⟨W.heap.size, 0, none⟩ = some (.int .i64 sw) := k0.at_ 0 rfl
              have k0_1 : w3.cell? ⟨W.heap.size, 1, none⟩ = some (.int .i64 sh) := k0.at_ 1 rfl
              have k0_2 : w3.cell? ⟨W.heap.size, 2, none⟩ = some (.slice a zs.length c) := k0.at_ 2 rfl
              have k0_3 : w3.cell? ⟨W.heap.size, 3, none⟩ = some (.bool fill) := k0.at_ 3 rfl
              have k0_z : W.heap.size < w3.heap.size := k0.lt
              have k1_0 : w3.cell? ⟨W.heap.size + 1, 0, none⟩ = some (.int .i64 X) := k1.at_ 0 rfl
              have k1_1 : w3.cell? ⟨W.heap.size + 1, 1, none⟩ = some (.int .i64 Y) := k1.at_ 1 rfl
              have k1_2 : w3.cell? ⟨W.heap.size + 1, 2, none⟩ = some (.int .i64 rw) := k1.at_ 2 rfl
              have k1_3 : w3.cell? ⟨W.heap.size + 1, 3, none⟩ = some (.int .i64 rh) := k1.at_ 3 rfl
              have k1_z : W.heap.size + 1 < w3.heap.size := k1.lt
              have k2_0 : w3.cell? ⟨w1.heap.size, 0, none⟩ = some (.int .i64 gw) := k2.at_ 0 rfl
              have k2_1 : w3.cell? ⟨w1.heap.size, 1, none⟩ = some (.int .i64 gh) := k2.at_ 1 rfl
              have k2_2 : w3.cell? ⟨w1.heap.size, 2, none⟩ = some (.slice a1 l.length c1) := k2.at_ 2 rfl
              have k2_z : w1.heap.size < w3.heap.size := k2.lt
              have k3_0 : w3.cell? ⟨w1.heap.size + 1, 0, none⟩ = some (.int .i64 gw) := k3.at_ 0 rfl
              have k3_1 : w3.cell? ⟨w1.heap.size + 1, 1, none⟩ = some (.int .i64 gh) := k3.at_ 1 rfl
              have k3_2 : w3.cell? ⟨w1.heap.size + 1, 2, none⟩ = some (.slice a2 l.length c2) := k3.at_ 2 rfl
              have k3_z : w1.heap.size + 1 < w3.heap.size := k3.lt
              go_wp2
              go_ret
              exact ⟨rfl, hB3⟩
            · by_cases t4 : 1099511627776 < Y
              · go_wp2_with fail
                go_at_call 10
                refine (lives_ok _).mono ?_
                rintro e w2 ⟨rfl, hb2⟩
                replace k0 : Blk w2 (W.heap.size) 24 #[.int .i64 sw, .int .i64 sh, .slice a zs.length c, .bool fill] := (((k0.alloc _).alloc _)).below hb2 (by first | omega | (simp; done) | (simp; omega))
                replace k1 : Blk w2 (W.heap.size + 1) 26 #[.int .i64 X, .int .i64 Y, .int .i64 rw, .int .i64 rh] := (((k1.alloc _).alloc _)).below hb2 (by first | omega | (simp; done) | (simp; omega))
                have k2 : Blk w2 (w1.heap.size) 28 #[.int .i64 gw, .int .i64 gh, .slice a1 l.length c1] := (((Blk.new _ _ _ (by first | rfl | simp)).alloc _)).below hb2 (by first | omega | (simp; done) | (simp; omega))
                have k3 : Blk w2 (w1.heap.size + 1) 30 #[.int .i64 gw, .int .i64 gh, .slice a2 l.length c2] := ((Blk.new _ _ _ (by first | rfl | simp))).below hb2 (by first | omega | (simp; done) | (simp; omega))
                replace s1 : SlI w2 .i64 8 l a1 c1 := (((s1.alloc _).alloc _)).below hb2 (by first | omega | (simp; done) | (simp; omega))
                replace s2 : SlI w2 .i64 8 l a2 c2 := (((s2.alloc _).alloc _)).below hb2 (by first | omega | (simp; done) | (simp; omega))
                have hB2 : Below W.heap.size W w2 := (((hB1.alloc (by first | omega | (simp; done) | (simp; omega)) _).alloc (by first | omega | (simp; done) | (simp; omega)) _)).trans (hb2.mono (by first | omega | (simp; done) | (simp; omega)))
                clear hB1
                have z2 := hb2.size
                try simp at z2
                clear k0_0 k0_1 k0_2 k0_3 k0_z k1_0 k1_1 k1_2 k1_3 k1_z
                have k0_0 : w2.cell? ⟨W.heap.size, 0, none⟩ = some (.int .i64 sw) := k0.at_ 0 rfl
                have k0_1 : w2.cell? ⟨W.heap.size, 1, none⟩ = some (.int .i64 sh) := k0.at_ 1 rfl
                have k0_2 : w2.cell? ⟨W.heap.size, 2, none⟩ = some (.slice a zs.length c) := k0.at_ 2 rfl
                have k0_3 : w2.cell? ⟨W.heap.size, 3, none⟩ = some (.bool fill) := k0.at_ 3 rfl
                have k0_z : W.heap.size < w2.heap.size := k0.lt
                have k1_0 : w2.cell? ⟨W.heap.size + 1, 0, none⟩ = some (.int .i64 X) := k1.at_ 0 rfl
                have k1_1 : w2.cell? ⟨W.heap.size + 1, 1, none⟩ = some (.int .i64 Y) := k1.at_ 1 rfl
                have k1_2 : w2.cell? ⟨W.heap.size + 1, 2, none⟩ = some (.int .i64 rw) := k1.at_ 2 rfl
                have k1_3 : w2.cell? ⟨W.heap.size + 1, 3, none⟩ = some (.int .i64 rh) := k1.at_ 3 rfl
                have k1_z : W.heap.size + 1 < w2.heap.size := k1.lt
                have k2_0 : w2.cell? ⟨w1.heap.size, 0, none⟩ = some (.int .i64 gw) := k2.at_ 0 rfl
                have k2_1 : w2.cell? ⟨w1.heap.size, 1, none⟩ = some (.int .i64 gh) := k2.at_ 1 rfl
                have k2_2 : w2.cell? ⟨w1.heap.size, 2, none⟩ = some (.slice a1 l.length c1) := k2.at_ 2 rfl
                have k2_z : w1.heap.size < w2.heap.size := k2.lt
                have k3_0 : w2.cell? ⟨w1.heap.size + 1, 0, none⟩ = some (.int .i64 gw) := k3.at_ 0 rfl
                have k3_1 : w2.cell? ⟨w1.heap.size + 1, 1, none⟩ = some (.int .i64 gh) := k3.at_ 1 rfl
                have k3_2 : w2.cell? ⟨w1.heap.size + 1, 2, none⟩ = some (.slice a2 l.length c2) := k3.at_ 2 rfl
                have k3_z : w1.heap.size + 1 < w2.heap.size := k3.lt
                go_wp2_with fail
                go_at_call 10
                refine (lives_ok _).mono ?_
                rintro e w3 ⟨rfl, hb3⟩
                replace k0 : Blk w3 (W.heap.size) 24 #[.int .i64 sw, .int .i64 sh, .slice a zs.length c, .bool fill] := (k0).below hb3 (by first | omega | (simp; done) | (simp; omega))
                replace k1 : Blk w3 (W.heap.size + 1) 26 #[.int .i64 X, .int .i64 Y, .int .i64 rw, .int .i64 rh] := (k1).below hb3 (by first | omega | (simp; done) | (simp; omega))
                replace k2 : Blk w3 (w1.heap.size) 28 #[.int .i64 gw, .int .i64 gh, .slice a1 l.length c1] := (k2).below hb3 (by first | omega | (simp; done) | (simp; omega))
                replace k3 : Blk w3 (w1.heap.size + 1) 30 #[.int .i64 gw, .int .i64 gh, .slice a2 l.length c2] := (k3).below hb3 (by first | omega | (simp; done) | (simp; omega))
                replace s1 : SlI w3 .i64 8 l a1 c1 := (s1).below hb3 (by first | omega | (simp; done) | (simp; omega))
                replace s2 : SlI w3 .i64 8 l a2 c2 := (s2).below hb3 (by first | omega | (simp; done) | (simp; omega))
                have hB3 : Below W.heap.size W w3 := (hB2).trans (hb3.mono (by first | omega | (simp; done) | (simp; omega)))
                clear hB2
                have z3 := hb3.size
                try simp at z3
                clear k0_0 k0_1 k0_2 k0_3 k0_z k1_0 k1_1 k1_2 k1_3 k1_z k2_0 k2_1 k2_2 k2_z k3_0 k3_1 k3_2 k3_z
                have k0_0 : w3.cell? ⟨W.heap.size, 0, none⟩ = some (.int .i64 sw) := k0.at_ 0 rfl
                have k0_1 : w3.cell? ⟨W.heap.size, 1, none⟩ = some (.int .i64 sh) := k0.at_ 1 rfl
                have k0_2 : w3.cell? ⟨W.heap.size, 2, none⟩ = some (.slice a zs.length c) := k0.at_ 2 rfl
                have k0_3 : w3.cell? ⟨W.heap.size, 3, none⟩ = some (.bool fill) := k0.at_ 3 rfl
                have k0_z : W.heap.size < w3.heap.size := k0.lt
                have k1_0 : w3.cell? ⟨W.heap.size + 1, 0, none⟩ = some (.int .i64 X) := k1.at_ 0 rfl
                have k1_1 : w3.cell? ⟨W.heap.size + 1, 1, none⟩ = some (.int .i64 Y) := k1.at_ 1 rfl
                have k1_2 : w3.cell? ⟨W.heap.size + 1, 2, none⟩ = some (.int .i64 rw) := k1.at_ 2 rfl
                have k1_3 : w3.cell? ⟨W.heap.size + 1, 3, none⟩ = some (.int .i64 rh) := k1.at_ 3 rfl
                have k1_z : W.heap.size + 1 < w3.heap.size := k1.lt
                have k2_0 : w3.cell? ⟨w1.heap.size, 0, none⟩ = some (.int .i64 gw) := k2.at_ 0 rfl
                have k2_1 : w3.cell? ⟨w1.heap.size, 1, none⟩ = some (.int .i64 gh) := k2.at_ 1 rfl
                have k2_2 : w3.cell? ⟨w1.heap.size, 2, none⟩ = some (.slice a1 l.length c1) := k2.at_ 2 rfl
                have k2_z : w1.heap.size < w3.heap.size := k2.lt
                have k3_0 : w3.cell? ⟨w1.heap.size + 1, 0, none⟩ = some (.int .i64 gw) := k3.at_ 0 rfl
                have k3_1 : w3.cell? ⟨w1.heap.size + 1, 1, none⟩ = some (.int .i64 gh) := k3.at_ 1 rfl
                have k3_2 : w3.cell? ⟨w1.heap.size + 1, 2, none⟩ = some (.slice a2 l.length c2) := k3.at_ 2 rfl
                have k3_z : w1.heap.size + 1 < w3.heap.size := k3.lt
                go_wp2
                go_ret
                exact ⟨rfl, hB3⟩
              · have HN : Hid ((fitsB rw rh && hasB gw gh l.length X Y) = false) := by
                  have : fitsB rw rh = false := by unfold fitsB; exact decide_eq_false (by omega)
                  unfold Hid; rw [this]; rfl
                go_wp2_with fail
                go_at_call 10
                refine (lives_ok _).mono ?_
                rintro e w2 ⟨rfl, hb2⟩
                replace k0 : Blk w2 (W.heap.size) 24 #[.int .i64 sw, .int .i64 sh, .slice a zs.length c, .bool fill] := (((k0.alloc _).alloc _)).below hb2 (by first | omega | (simp; done) | (simp; omega))
                replace k1 : Blk w2 (W.heap.size + 1) 26 #[.int .i64 X, .int .i64 Y, .int .i64 rw, .int .i64 rh] := (((k1.alloc _).alloc _)).below hb2 (by first | omega | (simp; done) | (simp; omega))
                have k2 : Blk w2 (w1.heap.size) 28 #[.int .i64 gw, .int .i64 gh, .slice a1 l.length c1] := (((Blk.new _ _ _ (by first | rfl | simp)).alloc _)).below hb2 (by first | omega | (simp; done) | (simp; omega))
                have k3 : Blk w2 (w1.heap.size + 1) 30 #[.int .i64 gw, .int .i64 gh, .slice a2 l.length c2] := ((Blk.new _ _ _ (by first | rfl | simp))).below hb2 (by first | omega | (simp; done) | (simp; omega))
                replace s1 : SlI w2 .i64 8 l a1 c1 := (((s1.alloc _).alloc _)).below hb2 (by first | omega | (simp; done) | (simp; omega))
                replace s2 : SlI w2 .i64 8 l a2 c2 := (((s2.alloc _).alloc _)).below hb2 (by first | omega | (simp; done) | (simp; omega))
                have hB2 : Below W.heap.size W w2 := (((hB1.alloc (by first | omega | (simp; done) | (simp; omega)) _).alloc (by first | omega | (simp; done) | (simp; omega)) _)).trans (hb2.mono (by first | omega | (simp; done) | (simp; omega)))
                clear hB1
                have z2 := hb2.size
                try simp at z2
                clear k0_0 k0_1 k0_2 k0_3 k0_z k1_0 k1_1 k1_2 k1_3 k1_z
                have k0_0 : w2.cell? ⟨W.heap.size, 0, none⟩ = some (.int .i64 sw) := k0.at_ 0 rfl
                have k0_1 : w2.cell? ⟨W.heap.size, 1, none⟩ = some (.int .i64 sh) := k0.at_ 1 rfl
                have k0_2 : w2.cell? ⟨W.heap.size, 2, none⟩ = some (.slice a zs.length c) := k0.at_ 2 rfl
                have k0_3 : w2.cell? ⟨W.heap.size, 3, none⟩ = some (.bool fill) := k0.at_ 3 rfl
                have k0_z : W.heap.size < w2.heap.size := k0.lt
                have k1_0 : w2.cell? ⟨W.heap.size + 1, 0, none⟩ = some (.int .i64 X) := k1.at_ 0 rfl
                have k1_1 : w2.cell? ⟨W.heap.size + 1, 1, none⟩ = some (.int .i64 Y) := k1.at_ 1 rfl
                have k1_2 : w2.cell? ⟨W.heap.size + 1, 2, none⟩ = some (.int .i64 rw) := k1.at_ 2 rfl
                have k1_3 : w2.cell? ⟨W.heap.size + 1, 3, none⟩ = some (.int .i64 rh) := k1.at_ 3 rfl
                have k1_z : W.heap.size + 1 < w2.heap.size := k1.lt
                have k2_0 : w2.cell? ⟨w1.heap.size, 0, none⟩ = some (.int .i64 gw) := k2.at_ 0 rfl
                have k2_1 : w2.cell? ⟨w1.heap.size, 1, none⟩ = some (.int .i64 gh) := k2.at_ 1 rfl
                have k2_2 : w2.cell? ⟨w1.heap.size, 2, none⟩ = some (.slice a1 l.length c1) := k2.at_ 2 rfl
                have k2_z : w1.heap.size < w2.heap.size := k2.lt
                have k3_0 : w2.cell? ⟨w1.heap.size + 1, 0, none⟩ = some (.int .i64 gw) := k3.at_ 0 rfl
                have k3_1 : w2.cell? ⟨w1.heap.size + 1, 1, none⟩ = some (.int .i64 gh) := k3.at_ 1 rfl
                have k3_2 : w2.cell? ⟨w1.heap.size + 1, 2, none⟩ = some (.slice a2 l.length c2) := k3.at_ 2 rfl
                have k3_z : w1.heap.size + 1 < w2.heap.size := k3.lt
                go_wp2_with fail
                go_at_call 11
                refine (cut_no _ _ _ _ _ _ _ _ _ _ (by omega) HN.out).mono ?_
                rintro e w3 ⟨rfl, hb3⟩
                replace k0 : Blk w3 (W.heap.size) 24 #[.int .i64 sw, .int .i64 sh, .slice a zs.length c, .bool fill] := (k0).below hb3 (by first | omega | (simp; done) | (simp; omega))
                replace k1 : Blk w3 (W.heap.size + 1) 26 #[.int .i64 X, .int .i64 Y, .int .i64 rw, .int .i64 rh] := (k1).below hb3 (by first | omega | (simp; done) | (simp; omega))
                replace k2 : Blk w3 (w1.heap.size) 28 #[.int .i64 gw, .int .i64 gh, .slice a1 l.length c1] := (k2).below hb3 (by first | omega | (simp; done) | (simp; omega))
                replace k3 : Blk w3 (w1.heap.size + 1) 30 #[.int .i64 gw, .int .i64 gh, .slice a2 l.length c2] := (k3).below hb3 (by first | omega | (simp; done) | (simp; omega))
                replace s1 : SlI w3 .i64 8 l a1 c1 := (s1).below hb3 (by first | omega | (simp; done) | (simp; omega))
                replace s2 : SlI w3 .i64 8 l a2 c2 := (s2).below hb3 (by first | omega | (simp; done) | (simp; omega))
                have hB3 : Below W.heap.size W w3 := (hB2).trans (hb3.mono (by first | omega | (simp; done) | (simp; omega)))
                clear hB2
                have z3 := hb3.size
                try simp at z3
                clear k0_0 k0_1 k0_2 k0_3 k0_z k1_0 k1_1 k1_2 k1_3 k1_z k2_0 k2_1 k2_2 k2_z k3_0 k3_1 k3_2 k3_z
                have k0_0 : w3.cell? ⟨W.heap.size, 0, none⟩ = some (.int .i64 sw) := k0.at_ 0 rfl
                have k0_1 : w3.cell? ⟨W.heap.size, 1, none⟩ = some (.int .i64 sh) := k0.at_ 1 rfl
                have k0_2 : w3.cell? ⟨W.heap.size, 2, none⟩ = some (.slice a zs.length c) := k0.at_ 2 rfl
                have k0_3 : w3.cell? ⟨W.heap.size, 3, none⟩ = some (.bool fill) := k0.at_ 3 rfl
                have k0_z : W.heap.size < w3.heap.size := k0.lt
                have k1_0 : w3.cell? ⟨W.heap.size + 1, 0, none⟩ = some (.int .i64 X) := k1.at_ 0 rfl
                have k1_1 : w3.cell? ⟨W.heap.size + 1, 1, none⟩ = some (.int .i64 Y) := k1.at_ 1 rfl
                have k1_2 : w3.cell? ⟨W.heap.size + 1, 2, none⟩ = some (.int .i64 rw) := k1.at_ 2 rfl
                have k1_3 : w3.cell? ⟨W.heap.size + 1, 3, none⟩ = some (.int .i64 rh) := k1.at_ 3 rfl
                have k1_z : W.heap.size + 1 < w3.heap.size := k1.lt
                have k2_0 : w3.cell? ⟨w1.heap.size, 0, none⟩ = some (.int .i64 gw) := k2.at_ 0 rfl
                have k2_1 : w3.cell? ⟨w1.heap.size, 1, none⟩ = some (.int .i64 gh) := k2.at_ 1 rfl
                have k2_2 : w3.cell? ⟨w1.heap.size, 2, none⟩ = some (.slice a1 l.length c1) := k2.at_ 2 rfl
                have k2_z : w1.heap.size < w3.heap.size := k2.lt
                have k3_0 : w3.cell? ⟨w1.heap.size + 1, 0, none⟩ = some (.int .i64 gw) := k3.at_ 0 rfl
                have k3_1 : w3.cell? ⟨w1.heap.size + 1, 1, none⟩ = some (.int .i64 gh) := k3.at_ 1 rfl
                have k3_2 : w3.cell? ⟨w1.heap.size + 1, 2, none⟩ = some (.slice a2 l.length c2) := k3.at_ 2 rfl
                have k3_z : w1.heap.size + 1 < w3.heap.size := k3.lt
                go_wp2_with fail
                go_at_call 12
                refine (rcut_no _ _ _ _ _ _ _ _ _ _ (by omega) HN.out).mono ?_
                rintro e w4 ⟨rfl, hb4⟩
                replace k0 : Blk w4 (W.heap.size) 24 #[.int .i64 sw, .int .i64 sh, .slice a zs.length c, .bool fill] := ((k0.alloc _)).below hb4 (by first | omega | (simp; done) | (simp; omega))
                replace k1 : Blk w4 (W.heap.size + 1) 26 #[.int .i64 X, .int .i64 Y, .int .i64 rw, .int .i64 rh] := ((k1.alloc _)).below hb4 (by first | omega | (simp; done) | (simp; omega))
                replace k2 : Blk w4 (w1.heap.size) 28 #[.int .i64 gw, .int .i64 gh, .slice a1 l.length c1] := ((k2.alloc _)).below hb4 (by first | omega | (simp; done) | (simp; omega))
                replace k3 : Blk w4 (w1.heap.size + 1) 30 #[.int .i64 gw, .int .i64 gh, .slice a2 l.length c2] := ((k3.alloc _)).below hb4 (by first | omega | (simp; done) | (simp; omega))
                have k4 : Blk w4 (w3.heap.size) 28 #[.int .i64 0, .int .i64 0, .slice none 0 0] := ((Blk.new _ _ _ (by first | rfl | simp))).below hb4 (by first | omega | (simp; done) | (simp; omega))
                replace s1 : SlI w4 .i64 8 l a1 c1 := ((s1.alloc _)).below hb4 (by first | omega | (simp; done) | (simp; omega))
                replace s2 : SlI w4 .i64 8 l a2 c2 := ((s2.alloc _)).below hb4 (by first | omega | (simp; done) | (simp; omega))
                have hB4 : Below W.heap.size W w4 := ((hB3.alloc (by first | omega | (simp; done) | (simp; omega)) _)).trans (hb4.mono (by first | omega | (simp; done) | (simp; omega)))
                clear hB3
                have z4 := hb4.size
                try simp at z4
                clear k0_0 k0_1 k0_2 k0_3 k0_z k1_0 k1_1 k1_2 k1_3 k1_z k2_0 k2_1 k2_2 k2_z k3_0 k3_1 k3_2 k3_z
                have k0_0 : w4.cell? ⟨W.heap.size, 0, none⟩ = some (.int .i64 sw) := k0.at_ 0 rfl
                have k0_1 : w4.cell? ⟨W.heap.size, 1, none⟩ = some (.int .i64 sh) := k0.at_ 1 rfl
                have k0_2 : w4.cell? ⟨W.heap.size, 2, none⟩ = some (.slice a zs.length c) := k0.at_ 2 rfl
                have k0_3 : w4.cell? ⟨W.heap.size, 3, none⟩ = some (.bool fill) := k0.at_ 3 rfl
                have k0_z : W.heap.size < w4.heap.size := k0.lt
                have k1_0 : w4.cell? ⟨W.heap.size + 1, 0, none⟩ = some (.int .i64 X) := k1.at_ 0 rfl
                have k1_1 : w4.cell? ⟨W.heap.size + 1, 1, none⟩ = some (.int .i64 Y) := k1.at_ 1 rfl
                have k1_2 : w4.cell? ⟨W.heap.size + 1, 2, none⟩ = some (.int .i64 rw) := k1.at_ 2 rfl
                have k1_3 : w4.cell? ⟨W.heap.size + 1, 3, none⟩ = some (.int .i64 rh) := k1.at_ 3 rfl
                have k1_z : W.heap.size + 1 < w4.heap.size := k1.lt
                have k2_0 : w4.cell? ⟨w1.heap.size, 0, none⟩ = some (.int .i64 gw) := k2.at_ 0 rfl
                have k2_1 : w4.cell? ⟨w1.heap.size, 1, none⟩ = some (.int .i64 gh) := k2.at_ 1 rfl
                have k2_2 : w4.cell? ⟨w1.heap.size, 2, none⟩ = some (.slice a1 l.length c1) := k2.at_ 2 rfl
                have k2_z : w1.heap.size < w4.heap.size := k2.lt
                have k3_0 : w4.cell? ⟨w1.heap.size + 1, 0, none⟩ = some (.int .i64 gw) := k3.at_ 0 rfl
                have k3_1 : w4.cell? ⟨w1.heap.size + 1, 1, none⟩ = some (.int .i64 gh) := k3.at_ 1 rfl
                have k3_2 : w4.cell? ⟨w1.heap.size + 1, 2, none⟩ = some (.slice a2 l.length c2) := k3.at_ 2 rfl
                have k3_z : w1.heap.size + 1 < w4.heap.size := k3.lt
                have k4_0 : w4.cell? ⟨w3.heap.size, 0, none⟩ = some (.int .i64 0) := k4.at_ 0 rfl
                have k4_1 : w4.cell? ⟨w3.heap.size, 1, none⟩ = some (.int .i64 0) := k4.at_ 1 rfl
                have k4_2 : w4.cell? ⟨w3.heap.size, 2, none⟩ = some (.slice none 0 0) := k4.at_ 2 rfl
                have k4_z : w3.heap.size < w4.heap.size := k4.lt
                go_wp2_with fail
                go_at_call 13
                refine (like_any _ _ _ _ _ [] [] _ _ _ _ (SlI.nil _ _ _) (SlI.nil _ _ _) true (by decide)).mono ?_
                rintro e w5 ⟨rfl, hb5⟩
                replace k0 : Blk w5 (W.heap.size) 24 #[.int .i64 sw, .int .i64 sh, .slice a zs.length c, .bool fill] := ((k0.alloc _)).below hb5 (by first | omega | (simp; done) | (simp; omega))
                replace k1 : Blk w5 (W.heap.size + 1) 26 #[.int .i64 X, .int .i64 Y, .int .i64 rw, .int .i64 rh] := ((k1.alloc _)).below hb5 (by first | omega | (simp; done) | (simp; omega))
                replace k2 : Blk w5 (w1.heap.size) 28 #[.int .i64 gw, .int .i64 gh, .slice a1 l.length c1] := ((k2.alloc _)).below hb5 (by first | omega | (simp; done) | (simp; omega))
                replace k3 : Blk w5 (w1.heap.size + 1) 30 #[.int .i64 gw, .int .i64 gh, .slice a2 l.length c2] := ((k3.alloc _)).below hb5 (by first | omega | (simp; done) | (simp; omega))
                replace k4 : Blk w5 (w3.heap.size) 28 #[.int .i64 0, .int .i64 0, .slice none 0 0] := ((k4.alloc _)).below hb5 (by first | omega | (simp; done) | (simp; omega))
                have k5 : Blk w5 (w4.heap.size) 30 #[.int .i64 0, .int .i64 0, .slice none 0 0] := ((Blk.new _ _ _ (by first | rfl | simp))).below hb5 (by first | omega | (simp; done) | (simp; omega))
                replace s1 : SlI w5 .i64 8 l a1 c1 := ((s1.alloc _)).below hb5 (by first | omega | (simp; done) | (simp; omega))
                replace s2 : SlI w5 .i64 8 l a2 c2 := ((s2.alloc _)).below hb5 (by first | omega | (simp; done) | (simp; omega))
                have hB5 : Below W.heap.size W w5 := ((hB4.alloc (by first | omega | (simp; done) | (simp; omega)) _)).trans (hb5.mono (by first | omega | (simp; done) | (simp; omega)))
                clear hB4
                have z5 := hb5.size
                try simp at z5
                clear k0_0 k0_1 k0_2 k0_3 k0_z k1_0 k1_1 k1_2 k1_3 k1_z k2_0 k2_1 k2_2 k2_z k3_0 k3_1 k3_2 k3_z k4_0 k4_1 k4_2 k4_z
                have k0_0 : w5.cell? ⟨W.heap.size, 0, none⟩ = some (.int .i64 sw) := k0.at_ 0 rfl
                have k0_1 : w5.cell? ⟨W.heap.size, 1, none⟩ = some (.int .i64 sh) := k0.at_ 1 rfl
                have k0_2 : w5.cell? ⟨W.heap.size, 2, none⟩ = some (.slice a zs.length c) := k0.at_ 2 rfl
                have k0_3 : w5.cell? ⟨W.heap.size, 3, none⟩ = some (.bool fill) := k0.at_ 3 rfl
                have k0_z : W.heap.size < w5.heap.size := k0.lt
                have k1_0 : w5.cell? ⟨W.heap.size + 1, 0, none⟩ = some (.int .i64 X) := k1.at_ 0 rfl
                have k1_1 : w5.cell? ⟨W.heap.size + 1, 1, none⟩ = some (.int .i64 Y) := k1.at_ 1 rfl
                have k1_2 : w5.cell? ⟨W.heap.size + 1, 2, none⟩ = some (.int .i64 rw) := k1.at_ 2 rfl
                have k1_3 : w5.cell? ⟨W.heap.size + 1, 3, none⟩ = some (.int .i64 rh) := k1.at_ 3 rfl
                have k1_z : W.heap.size + 1 < w5.heap.size := k1.lt
                have k2_0 : w5.cell? ⟨w1.heap.size, 0, none⟩ = some (.int .i64 gw) := k2.at_ 0 rfl
                have k2_1 : w5.cell? ⟨w1.heap.size, 1, none⟩ = some (.int .i64 gh) := k2.at_ 1 rfl
                have k2_2 : w5.cell? ⟨w1.heap.size, 2, none⟩ = some (.slice a1 l.length c1) := k2.at_ 2 rfl
                have k2_z : w1.heap.size < w5.heap.size := k2.lt
                have k3_0 : w5.cell? ⟨w1.heap.size + 1, 0, none⟩ = some (.int .i64 gw) := k3.at_ 0 rfl
                have k3_1 : w5.cell? ⟨w1.heap.size + 1, 1, none⟩ = some (.int .i64 gh) := k3.at_ 1 rfl
                have k3_2 : w5.cell? ⟨w1.heap.size + 1, 2, none⟩ = some (.slice a2 l.length c2) := k3.at_ 2 rfl
                have k3_z : w1.heap.size + 1 < w5.heap.size := k3.lt
                have k4_0 : w5.cell? ⟨w3.heap.size, 0, none⟩ = some (.int .i64 0) := k4.at_ 0 rfl
                have k4_1 : w5.cell? ⟨w3.heap.size, 1, none⟩ = some (.int .i64 0) := k4.at_ 1 rfl
                have k4_2 : w5.cell? ⟨w3.heap.size, 2, none⟩ = some (.slice none 0 0) := k4.at_ 2 rfl
                have k4_z : w3.heap.size < w5.heap.size := k4.lt
                have k5_0 : w5.cell? ⟨w4.heap.size, 0, none⟩ = some (.int .i64 0) := k5.at_ 0 rfl
                have k5_1 : w5.cell? ⟨w4.heap.size, 1, none⟩ = some (.int .i64 0) := k5.at_ 1 rfl
                have k5_2 : w5.cell? ⟨w4.heap.size, 2, none⟩ = some (.slice none 0 0) := k5.at_ 2 rfl
                have k5_z : w4.heap.size < w5.heap.size := k5.lt
                go_wp2
                refine wp_loop_rounds 1 ?_
                rw [rounds_succ]
                go_wp2_with fail
                go_at_call 13
                refine (like_any _ _ _ _ _ _ _ _ _ _ _ s1 s2 true (by simp)).mono ?_
                rintro e w6 ⟨rfl, hb6⟩
                replace k0 : Blk w6 (W.heap.size) 24 #[.int .i64 sw, .int .i64 sh, .slice a zs.length c, .bool fill] := (k0).below hb6 (by first | omega | (simp; done) | (simp; omega))
                replace k1 : Blk w6 (W.heap.size + 1) 26 #[.int .i64 X, .int .i64 Y, .int .i64 rw, .int .i64 rh] := (k1).below hb6 (by first | omega | (simp; done) | (simp; omega))
                replace k2 : Blk w6 (w1.heap.size) 28 #[.int .i64 gw, .int .i64 gh, .slice a1 l.length c1] := (k2).below hb6 (by first | omega | (simp; done) | (simp; omega))
                replace k3 : Blk w6 (w1.heap.size + 1) 30 #[.int .i64 gw, .int .i64 gh, .slice a2 l.length c2] := (k3).below hb6 (by first | omega | (simp; done) | (simp; omega))
                replace k4 : Blk w6 (w3.heap.size) 28 #[.int .i64 0, .int .i64 0, .slice none 0 0] := (k4).below hb6 (by first | omega | (simp; done) | (simp; omega))
                replace k5 : Blk w6 (w4.heap.size) 30 #[.int .i64 0, .int .i64 0, .slice none 0 0] := (k5).below hb6 (by first | omega | (simp; done) | (simp; omega))
                replace s1 : SlI w6 .i64 8 l a1 c1 := (s1).below hb6 (by first | omega | (simp; done) | (simp; omega))
                replace s2 : SlI w6 .i64 8 l a2 c2 := (s2).below hb6 (by first | omega | (simp; done) | (simp; omega))
                have hB6 : Below W.heap.size W w6 := (hB5).trans (hb6.mono (by first | omega | (simp; done) | (simp; omega)))
                clear hB5
                have z6 := hb6.size
                try simp at z6
                clear k0_0 k0_1 k0_2 k0_3 k0_z k1_0 k1_1 k1_2 k1_3 k1_z k2_0 k2_1 k2_2 k2_z k3_0 k3_1 k3_2 k3_z k4_0 k4_1 k4_2 k4_z k5_0 k5_1 k5_2 k5_z
                have k0_0 : w6.cell? ⟨W.heap.size, 0, none⟩ = some (.int .i64 sw) := k0.at_ 0 rfl
                have k0_1 : w6.cell? ⟨W.heap.size, 1, none⟩ = some (.int .i64 sh) := k0.at_ 1 rfl
                have k0_2 : w6.cell? ⟨W.heap.size, 2, none⟩ = some (.slice a zs.length c) := k0.at_ 2 rfl
                have k0_3 : w6.cell? ⟨W.heap.size, 3, none⟩ = some (.bool fill) := k0.at_ 3 rfl
                have k0_z : W.heap.size < w6.heap.size := k0.lt
                have k1_0 : w6.cell? ⟨W.heap.size + 1, 0, none⟩ = some (.int .i64 X) := k1.at_ 0 rfl
                have k1_1 : w6.cell? ⟨W.heap.size + 1, 1, none⟩ = some (.int .i64 Y) := k1.at_ 1 rfl
                have k1_2 : w6.cell? ⟨W.heap.size + 1, 2, none⟩ = some (.int .i64 rw) := k1.at_ 2 rfl
                have k1_3 : w6.cell? ⟨W.heap.size + 1, 3, none⟩ = some (.int .i64 rh) := k1.at_ 3 rfl
                have k1_z : W.heap.size + 1 < w6.heap.size := k1.lt
                have k2_0 : w6.cell? ⟨w1.heap.size, 0, none⟩ = some (.int .i64 gw) := k2.at_ 0 rfl
                have k2_1 : w6.cell? ⟨w1.heap.size, 1, none⟩ = some (.int .i64 gh) := k2.at_ 1 rfl
                have k2_2 : w6.cell? ⟨w1.heap.size, 2, none⟩ = some (.slice a1 l.length c1) := k2.at_ 2 rfl
                have k2_z : w1.heap.size < w6.heap.size := k2.lt
                have k3_0 : w6.cell? ⟨w1.heap.size + 1, 0, none⟩ = some (.int .i64 gw) := k3.at_ 0 rfl
                have k3_1 : w6.cell? ⟨w1.heap.size + 1, 1, none⟩ = some (.int .i64 gh) := k3.at_ 1 rfl
                have k3_2 : w6.cell? ⟨w1.heap.size + 1, 2, none⟩ = some (.slice a2 l.length c2) := k3.at_ 2 rfl
                have k3_z : w1.heap.size + 1 < w6.heap.size := k3.lt
                have k4_0 : w6.cell? ⟨w3.heap.size, 0, none⟩ = some (.int .i64 0) := k4.at_ 0 rfl
                have k4_1 : w6.cell? ⟨w3.heap.size, 1, none⟩ = some (.int .i64 0) := k4.at_ 1 rfl
                have k4_2 : w6.cell? ⟨w3.heap.size, 2, none⟩ = some (.slice none 0 0) := k4.at_ 2 rfl
                have k4_z : w3.heap.size < w6.heap.size := k4.lt
                have k5_0 : w6.cell? ⟨w4.heap.size, 0, none⟩ = some (.int .i64 0) := k5.at_ 0 rfl
                have k5_1 : w6.cell? ⟨w4.heap.size, 1, none⟩ = some (.int .i64 0) := k5.at_ 1 rfl
                have k5_2 : w6.cell? ⟨w4.heap.size, 2, none⟩ = some (.slice none 0 0) := k5.at_ 2 rfl
                have k5_z : w4.heap.size < w6.heap.size := k5.lt
                go_wp2
                go_ret
                exact ⟨rfl, hB6⟩

theorem gridCuts_walk (w : World) (p0_0 : Int) (bp0_0 : -9223372036854775808 ≤ p0_0 ∧ p0_0 ≤ 9223372036854775807) (p0_1 : Int) (bp0_1 : -9223372036854775808 ≤ p0_1 ∧ p0_1 ≤ 9223372036854775807) (p0_2 : List Int) (ap0_2 : Option Addr) (cp0_2 : Nat) (sp0_2 : SlI w .i64 8 p0_2 ap0_2 cp0_2) (p0_3 : Bool)
    (p1_0 : Int) (_b0 : -9223372036854775808 ≤ p1_0 ∧ p1_0 ≤ 9223372036854775807) (p1_1 : Int) (_b1 : -9223372036854775808 ≤ p1_1 ∧ p1_1 ≤ 9223372036854775807) (p1_2 : Int) (_b2 : -9223372036854775808 ≤ p1_2 ∧ p1_2 ≤ 9223372036854775807) (p1_3 : Int) (_b3 : -9223372036854775808 ≤ p1_3 ∧ p1_3 ≤ 9223372036854775807) :
    Calls Try.prog 3 #[.agg #[.int .i64 p0_0, .int .i64 p0_1, .slice ap0_2 p0_2.length cp0_2, .bool p0_3], .agg #[.int .i64 p1_0, .int .i64 p1_1, .int .i64 p1_2, .int .i64 p1_3]] w fun e w' => e = .returned (.bool true) ∧ Below w.heap.size w w' :=
  cuts_any w _ _ _ _ _ _ _ _ _ _ sp0_2 bp0_0 bp0_1
end Go.Proofs.Ytbckibmjjkgmnaa

/- The law OctetsWindows returns true: its walk. No condition. -/
import Derived.Test.YtochcepfljafoaaScalars
import Derived.Test.YtochcepfljafoaaRef
namespace Go.Proofs.Ytochcepfljafoaa
open Go.RowKit Go.Shp Go.Deep
attribute [local go_sem ↓] Go.wp_at_zero Go.wp_at_succ

set_option maxHeartbeats 1000000 in
theorem get_any (W : World) (zs : List Int) (a : Option Addr) (c : Nat) (x size : Int) (big : Bool) (hs : SlI W .u8 1 zs a c) (hx : 0 ≤ x ∧ x < 18446744073709551616) (r k : Int) (hr : rgetS zs x size big = r) (hk : rgetE zs x size = k) :
    Calls Try.prog 11 #[.slice a zs.length c, .int .u64 x, .int .i64 size, .bool big] W fun e w' => e = .returned (.tuple #[.int .u64 r, .int .i64 k]) ∧ Below W.heap.size W w' := by
  have hl := hs.len63
  cases hz : sizedB size with
  | false =>
    have h1 : r = 0 := by rw [← hr, rgetS, hz]; rfl
    have h2 : k = 1 := by rw [← hk, rgetE, hz]; rfl
    subst h1 h2
    refine (get_arg W _ x size big hz).mono ?_
    rintro e w' ⟨rfl, rfl⟩
    exact ⟨rfl, Below.refl _ _⟩
  | true =>
    have hsz := sized_le hz
    by_cases hh : x + size ≤ (zs.length : Int)
    · obtain ⟨lo, rfl⟩ := Int.eq_ofNat_of_zero_le hx.1
      obtain ⟨m, rfl⟩ := Int.eq_ofNat_of_zero_le (show 0 ≤ size by omega)
      have h1 : getN big ((zs.drop lo).take m) = r := by rw [← hr, rgetS, hz, rwinS, if_pos hh]; simp
      have h2 : k = 0 := by rw [← hk, rgetE, hz, rwinE, if_pos hh]; rfl
      subst h2
      exact get_yes W zs a c lo m big hs hz (by omega) r h1
    · have h1 : r = 0 := by rw [← hr, rgetS, hz, rwinS, if_neg hh]; cases big <;> rfl
      have h2 : k = 2 := by rw [← hk, rgetE, hz, rwinE, if_neg hh]; rfl
      subst h1 h2
      refine (get_cut W a zs.length c x size big (by omega) hx hz hh).mono ?_
      rintro e w' ⟨rfl, rfl⟩
      exact ⟨rfl, Below.refl _ _⟩

def OwL (w : World) (base : Nat) (M : List Int) (n : Nat) (v : Value) : Prop := OwI w base 5 .u8 M v ∧ M.length = n
set_option maxHeartbeats 1000000 in
theorem windows_any (W : World) (zs : List Int) (a : Option Addr) (c : Nat) (hs : SlI W .u8 1 zs a c) (lo m : Nat) (hx : 0 ≤ (lo : Int) ∧ (lo : Int) < 18446744073709551616) (hn : 0 ≤ (m : Int) ∧ (m : Int) < 18446744073709551616) (size : Int) (big : Bool) :
    Calls Try.prog 3 #[.slice a zs.length c, .agg #[.int .u64 (lo : Int), .int .u64 (m : Int), .int .i64 size, .bool big]] W fun e w' => e = .returned (.bool true) ∧ Below W.heap.size W w' := by
  obtain ⟨r, hr⟩ : ∃ r, rgetS zs (lo : Int) size big = r := ⟨_, rfl⟩
  obtain ⟨k, hk⟩ : ∃ r, rgetE zs (lo : Int) size = r := ⟨_, rfl⟩
  have HGS := Lib.hid hr
  have HGE := Lib.hid hk
  clear hr hk
  by_cases h5 : (500 : Int) < (zs.length : Int)
  · have H500 := hs.len63
    go_enter Try.func3, Try.ntmps3
    go_wp2_with fail
    go_at_call 8
    refine (lives_ok _).mono ?_
    rintro e w1 ⟨rfl, hb1⟩
    have k0 : Blk w1 (W.heap.size) 25 #[.int .u64 (lo : Int), .int .u64 (m : Int), .int .i64 size, .bool big] := ((Blk.new _ _ _ (by first | rfl | simp))).below hb1 (by first | omega | (simp; done) | (simp; omega))
    replace hs : SlI w1 .u8 1 zs a c := ((hs.alloc _)).below hb1 (by first | omega | (simp; done) | (simp; omega))
    have hB1 : Below W.heap.size W w1 := (((Below.refl W.heap.size W).alloc (by first | omega | (simp; done) | (simp; omega)) _)).trans (hb1.mono (by first | omega | (simp; done) | (simp; omega)))
    have z1 := hb1.size
    try simp at z1
    have k0_0 : w1.cell? ⟨W.heap.size, 0, none⟩ = some (.int .u64 (lo : Int)) := k0.at_ 0 rfl
    have k0_1 : w1.cell? ⟨W.heap.size, 1, none⟩ = some (.int .u64 (m : Int)) := k0.at_ 1 rfl
    have k0_2 : w1.cell? ⟨W.heap.size, 2, none⟩ = some (.int .i64 size) := k0.at_ 2 rfl
    have k0_3 : w1.cell? ⟨W.heap.size, 3, none⟩ = some (.bool big) := k0.at_ 3 rfl
    have k0_z : W.heap.size < w1.heap.size := k0.lt
    go_wp2_with fail
    go_at_call 8
    refine (lives_ok _).mono ?_
    rintro e w2 ⟨rfl, hb2⟩
    replace k0 : Blk w2 (W.heap.size) 25 #[.int .u64 (lo : Int), .int .u64 (m : Int), .int .i64 size, .bool big] := (k0).below hb2 (by first | omega | (simp; done) | (simp; omega))
    replace hs : SlI w2 .u8 1 zs a c := (hs).below hb2 (by first | omega | (simp; done) | (simp; omega))
    have hB2 : Below W.heap.size W w2 := (hB1).trans (hb2.mono (by first | omega | (simp; done) | (simp; omega)))
    clear hB1
    have z2 := hb2.size
    try simp at z2
    clear k0_0 k0_1 k0_2 k0_3 k0_z
    have k0_0 : w2.cell? ⟨W.heap.size, 0, none⟩ = some (.int .u64 (lo : Int)) := k0.at_ 0 rfl
    have k0_1 : w2.cell? ⟨W.heap.size, 1, none⟩ = some (.int .u64 (m : Int)) := k0.at_ 1 rfl
    have k0_2 : w2.cell? ⟨W.heap.size, 2, none⟩ = some (.int .i64 size) := k0.at_ 2 rfl
    have k0_3 : w2.cell? ⟨W.heap.size, 3, none⟩ = some (.bool big) := k0.at_ 3 rfl
    have k0_z : W.heap.size < w2.heap.size := k0.lt
    go_wp2
    go_ret
    exact ⟨rfl, hB2⟩
  · have H500 := hs.len63
    go_enter Try.func3, Try.ntmps3
    go_wp2_with fail
    go_at_call 8
    refine (lives_ok _).mono ?_
    rintro e w1 ⟨rfl, hb1⟩
    have k0 : Blk w1 (W.heap.size) 25 #[.int .u64 (lo : Int), .int .u64 (m : Int), .int .i64 size, .bool big] := ((Blk.new _ _ _ (by first | rfl | simp))).below hb1 (by first | omega | (simp; done) | (simp; omega))
    replace hs : SlI w1 .u8 1 zs a c := ((hs.alloc _)).below hb1 (by first | omega | (simp; done) | (simp; omega))
    have hB1 : Below W.heap.size W w1 := (((Below.refl W.heap.size W).alloc (by first | omega | (simp; done) | (simp; omega)) _)).trans (hb1.mono (by first | omega | (simp; done) | (simp; omega)))
    have z1 := hb1.size
    try simp at z1
    have k0_0 : w1.cell? ⟨W.heap.size, 0, none⟩ = some (.int .u64 (lo : Int)) := k0.at_ 0 rfl
    have k0_1 : w1.cell? ⟨W.heap.size, 1, none⟩ = some (.int .u64 (m : Int)) := k0.at_ 1 rfl
    have k0_2 : w1.cell? ⟨W.heap.size, 2, none⟩ = some (.int .i64 size) := k0.at_ 2 rfl
    have k0_3 : w1.cell? ⟨W.heap.size, 3, none⟩ = some (.bool big) := k0.at_ 3 rfl
    have k0_z : W.heap.size < w1.heap.size := k0.lt
    go_wp2_with (at_builtin; refine halt_ ?_)
    refine go_on ?_
    refine append_sl (zs := []) EB rfl (.tmp 23) (.tmp 24) rfl w1.heap.size rfl rfl rfl (OwI.lit _ _ _ _ [] rfl (Nat.le_refl _) (by decide) (by simp) rfl rfl) (hs.alloc _) (N := zs.length) (by simp) (by omega) (by omega) (by simp) ?_
    intro a0 c0 w2 ho0 hg2 hb2
    clear hg2
    simp only [List.nil_append] at ho0
    replace hb2 : Below w1.heap.size w1 w2 := ((Below.refl _ _).alloc (Nat.le_refl _) _).trans hb2
    replace k0 : Blk w2 (W.heap.size) 25 #[.int .u64 (lo : Int), .int .u64 (m : Int), .int .i64 size, .bool big] := (k0).below hb2 (by first | omega | (simp; done) | (simp; omega))
    replace hs : SlI w2 .u8 1 zs a c := (hs).below hb2 (by first | omega | (simp; done) | (simp; omega))
    have hB2 : Below W.heap.size W w2 := (hB1).trans (hb2.mono (by first | omega | (simp; done) | (simp; omega)))
    clear hB1
    have z2 := hb2.size
    try simp at z2
    clear k0_0 k0_1 k0_2 k0_3 k0_z
    have k0_0 : w2.cell? ⟨W.heap.size, 0, none⟩ = some (.int .u64 (lo : Int)) := k0.at_ 0 rfl
    have k0_1 : w2.cell? ⟨W.heap.size, 1, none⟩ = some (.int .u64 (m : Int)) := k0.at_ 1 rfl
    have k0_2 : w2.cell? ⟨W.heap.size, 2, none⟩ = some (.int .i64 size) := k0.at_ 2 rfl
    have k0_3 : w2.cell? ⟨W.heap.size, 3, none⟩ = some (.bool big) := k0.at_ 3 rfl
    have k0_z : W.heap.size < w2.heap.size := k0.lt
    have so := ho0.slN (bytes := 1) rfl (by omega)
    clear ho0
    have TO := Lib.hid so
    have TB := Lib.hid hs
    by_cases hw : (lo : Int) + (m : Int) ≤ (zs.length : Int)
    · obtain ⟨L, hL⟩ : ∃ L, (zs.drop lo).take m = L := ⟨_, rfl⟩
      have hLm : L.length = m := by rw [← hL, List.length_take, List.length_drop]; omega
      have hwS : rwinS zs (lo : Int) (m : Int) = L := by rw [rwinS, if_pos hw, ← hL]; simp
      have hwE : rwinE zs (lo : Int) (m : Int) = 0 := by rw [rwinE, if_pos hw]
      have HWS := Lib.hid hwS
      have HWE := Lib.hid hwE
      have HL := Lib.hid hL
      have hm5 : m ≤ 500 := by omega
      have HLW : Hid (lo + m ≤ zs.length) := by unfold Hid; omega
      clear hwS hwE hw hL
      subst hLm
      go_wp2_with fail
      go_at_call 9
      refine (window_yes _ _ _ _ _ _ so HLW.out).mono ?_
      rintro e w3 ⟨v, rfl, ho, hb3⟩
      replace k0 : Blk w3 (W.heap.size) 25 #[.int .u64 (lo : Int), .int .u64 (L.length : Int), .int .i64 size, .bool big] := (k0).below hb3 (by first | omega | (simp; done) | (simp; omega))
      replace hs : SlI w3 .u8 1 zs a c := (hs).below hb3 (by first | omega | (simp; done) | (simp; omega))
      replace so : SlI w3 .u8 1 zs a0 c0 := (so).below hb3 (by first | omega | (simp; done) | (simp; omega))
      have hB3 : Below W.heap.size W w3 := (hB2).trans (hb3.mono (by first | omega | (simp; done) | (simp; omega)))
      clear hB2
      have z3 := hb3.size
      try simp at z3
      clear k0_0 k0_1 k0_2 k0_3 k0_z
      have k0_0 : w3.cell? ⟨W.heap.size, 0, none⟩ = some (.int .u64 (lo : Int)) := k0.at_ 0 rfl
      have k0_1 : w3.cell? ⟨W.heap.size, 1, none⟩ = some (.int .u64 (L.length : Int)) := k0.at_ 1 rfl
      have k0_2 : w3.cell? ⟨W.heap.size, 2, none⟩ = some (.int .i64 size) := k0.at_ 2 rfl
      have k0_3 : w3.cell? ⟨W.heap.size, 3, none⟩ = some (.bool big) := k0.at_ 3 rfl
      have k0_z : W.heap.size < w3.heap.size := k0.lt
      rw [HL.out] at ho
      obtain ⟨a3, c3, hv, _, _⟩ := ho.form
      subst hv
      have HG3 := Lib.hid ho.lt
      have kb2 : (convert 22 9 (.slice a zs.length c)).run Try.prog w3 = .ok (.string (strOfNums zs)) w3 := hs.conv 22 9 5 Try.underlying22 Try.underlying5 Try.underlying9
      have HB := Lib.hid hs.bytes
      go_wp2_with fail
      go_at_call 10
      refine (rwin_any _ _ _ _ (by omega) hx hn _ _ HWS.out HWE.out).mono ?_
      rintro e wx ⟨rfl, hwx⟩
      rw [hwx]
      clear hwx wx
      dsimp only
      go_wp2_with fail
      go_at_call 11
      refine (get_any _ _ _ _ _ _ _ so hx _ _ HGS.out HGE.out).mono ?_
      rintro e w4 ⟨rfl, hb4⟩
      replace k0 : Blk w4 (W.heap.size) 25 #[.int .u64 (lo : Int), .int .u64 (L.length : Int), .int .i64 size, .bool big] := (k0).below hb4 (by first | omega | (simp; done) | (simp; omega))
      replace hs : SlI w4 .u8 1 zs a c := (hs).below hb4 (by first | omega | (simp; done) | (simp; omega))
      replace so : SlI w4 .u8 1 zs a0 c0 := (so).below hb4 (by first | omega | (simp; done) | (simp; omega))
      replace ho : OwI w4 (w2.heap.size) 5 .u8 L (.slice a3 L.length c3) := (ho).keep hb4 (by first | omega | (simp; done) | (simp; omega))
      have hB4 : Below W.heap.size W w4 := (hB3).trans (hb4.mono (by first | omega | (simp; done) | (simp; omega)))
      clear hB3
      have z4 := hb4.size
      try simp at z4
      clear k0_0 k0_1 k0_2 k0_3 k0_z
      have k0_0 : w4.cell? ⟨W.heap.size, 0, none⟩ = some (.int .u64 (lo : Int)) := k0.at_ 0 rfl
      have k0_1 : w4.cell? ⟨W.heap.size, 1, none⟩ = some (.int .u64 (L.length : Int)) := k0.at_ 1 rfl
      have k0_2 : w4.cell? ⟨W.heap.size, 2, none⟩ = some (.int .i64 size) := k0.at_ 2 rfl
      have k0_3 : w4.cell? ⟨W.heap.size, 3, none⟩ = some (.bool big) := k0.at_ 3 rfl
      have k0_z : W.heap.size < w4.heap.size := k0.lt
      have kb3 : (convert 22 9 (.slice a zs.length c)).run Try.prog w4 = .ok (.string (strOfNums zs)) w4 := hs.conv 22 9 5 Try.underlying22 Try.underlying5 Try.underlying9
      have ko3 : (convert 22 9 (.slice a0 zs.length c0)).run Try.prog w4 = .ok (.string (strOfNums zs)) w4 := so.conv 22 9 5 Try.underlying22 Try.underlying5 Try.underlying9
      go_wp2_with fail
      go_at_call 12
      refine (rget_any _ _ _ _ _ HB.out (by omega) hx _ _ HGS.out HGE.out).mono ?_
      rintro e wx ⟨rfl, hwx⟩
      rw [hwx]
      clear hwx wx
      dsimp only
      have sw := ho.sl (bytes := 1) (by omega)
      have kn3 : (convert 22 9 (.slice a3 L.length c3)).run Try.prog w4 = .ok (.string (strOfNums L)) w4 := sw.conv 22 9 5 Try.underlying22 Try.underlying5 Try.underlying9
      clear sw
      by_cases hl0 : L.length = 0
      · have hl0' : (L.length : Int) ≤ 0 := by omega
        clear hl0
        go_wp2
        refine wp_loop_rounds 1 ?_
        rw [rounds_succ]
        go_wp2
        go_ret
        exact ⟨rfl, hB4⟩
      · obtain ⟨g, hga, hgb, hgl, _, _⟩ := ho.at_ hl0
        subst hga
        have hg3 := (HG3.out g rfl).2
        have i0 : (0 : Int) < (L.length : Int) := by omega
        clear HG3
        have hb24 : Below w2.heap.size w2 w4 := by repeat (first | exact Below.refl _ _ | refine Below.drew ?_ | refine below_drewN ?_ _ | (refine Below.alloc ?_ (by first | (simp; done) | omega | (simp; omega)) _) | (refine Below.setCell ?_ (by first | (simp; done) | omega | (simp; omega)) _) | (refine Below.trans ?_ (hb4.mono (by first | (simp; done) | omega | (simp; omega)))) | (refine Below.trans ?_ (hb3.mono (by first | (simp; done) | omega | (simp; omega)))))
        clear kb2 kb3 ko3
        go_wp2
        go_loopw [89] (fun iv wr => ∃ (i : Nat) (M : List Int), i ≤ L.length ∧ iv = .int .i64 (i : Int) ∧ OwL wr w2.heap.size M L.length (.slice (some ⟨g, 0, none⟩) L.length c3) ∧ w4.grownBy wr (some g)) (fun iv _ => L.length - (intOf iv).toNat)
        case atStart => exact ⟨0, L, Nat.zero_le _, rfl, ⟨ho, rfl⟩, World.grownBy.refl _ _⟩
        case round =>
          obtain ⟨i, M, hi, rfl, HOL, hgr⟩ := hrel
          clear kn3
          clear k0_0 k0_1 k0_2 k0_3
          by_cases hil : i < L.length
          · obtain ⟨g', hg', _, hgl', hgf, hgc⟩ := HOL.1.atN HOL.2 hl0
            injection hg' with hg'
            injection hg' with hg'
            subst hg'
            have hgf1 := hgf i
            have hgc1 := hgc i hil
            clear hgf hgc
            obtain ⟨u, hu⟩ : ∃ u, u = M.getD i 0 := ⟨_, rfl⟩
            rw [← hu] at hgc1
            have HST := Lib.hid (HOL.1.setN HOL.2 i (wf_wrap .u8 (u + 1)))
            have HML := Lib.hid HOL.2
            have i1 : (0 : Int) ≤ (i : Int) := by omega
            have i2 : (i : Int) < (L.length : Int) := by omega
            clear hu HOL
            go_wp2
            go_roundw
            case rel => exact ⟨i + 1, M.set i (IntKind.u8.wrap (u + 1)), by omega, by go_num, ⟨HST.out.1, by rw [List.length_set]; exact HML.out⟩, hgr.trans HST.out.2⟩
            case measure => simp [intOf]; omega
          · have hX : Below w2.heap.size w2 wr := hb24.grown hgr (by omega) (by intro k hk; injection hk; omega)
            have hY : Below W.heap.size W wr := hB4.grown hgr (by omega) (by intro k hk; injection hk; omega)
            have t1 := TO.out.below hX (Nat.le_refl _)
            have t2 := TB.out.below hX (Nat.le_refl _)
            have kb5 : (convert 22 9 (.slice a zs.length c)).run Try.prog wr = .ok (.string (strOfNums zs)) wr := t2.conv 22 9 5 Try.underlying22 Try.underlying5 Try.underlying9
            have ko5 : (convert 22 9 (.slice a0 zs.length c0)).run Try.prog wr = .ok (.string (strOfNums zs)) wr := t1.conv 22 9 5 Try.underlying22 Try.underlying5 Try.underlying9
            go_wp2
            go_ret
            exact ⟨rfl, hY⟩
    · have hwS : rwinS zs (lo : Int) (m : Int) = [] := by rw [rwinS, if_neg hw]
      have hwE : rwinE zs (lo : Int) (m : Int) = 2 := by rw [rwinE, if_neg hw]
      have HWS := Lib.hid hwS
      have HWE := Lib.hid hwE
      have HW := Lib.hid hw
      clear hwS hwE hw
      go_wp2_with fail
      go_at_call 9
      refine (window_no _ _ _ _ _ _ (show (zs.length) ≤ _ by omega) hx hn (by have := HW.out; omega)).mono ?_
      rintro e wx ⟨rfl, hwx⟩
      rw [hwx]
      clear hwx wx
      dsimp only
      have kb2 : (convert 22 9 (.slice a zs.length c)).run Try.prog w2 = .ok (.string (strOfNums zs)) w2 := hs.conv 22 9 5 Try.underlying22 Try.underlying5 Try.underlying9
      have HB := Lib.hid hs.bytes
      go_wp2_with fail
      go_at_call 10
      refine (rwin_any _ _ _ _ (by omega) hx hn _ _ HWS.out HWE.out).mono ?_
      rintro e wx ⟨rfl, hwx⟩
      rw [hwx]
      clear hwx wx
      dsimp only
      go_wp2_with fail
      go_at_call 11
      refine (get_any _ _ _ _ _ _ _ so hx _ _ HGS.out HGE.out).mono ?_
      rintro e w3 ⟨rfl, hb3⟩
      replace k0 : Blk w3 (W.heap.size) 25 #[.int .u64 (lo : Int), .int .u64 (m : Int), .int .i64 size, .bool big] := (k0).below hb3 (by first | omega | (simp; done) | (simp; omega))
      replace hs : SlI w3 .u8 1 zs a c := (hs).below hb3 (by first | omega | (simp; done) | (simp; omega))
      replace so : SlI w3 .u8 1 zs a0 c0 := (so).below hb3 (by first | omega | (simp; done) | (simp; omega))
      have hB3 : Below W.heap.size W w3 := (hB2).trans (hb3.mono (by first | omega | (simp; done) | (simp; omega)))
      clear hB2
      have z3 := hb3.size
      try simp at z3
      clear k0_0 k0_1 k0_2 k0_3 k0_z
      have k0_0 : w3.cell? ⟨W.heap.size, 0, none⟩ = some (.int .u64 (lo : Int)) := k0.at_ 0 rfl
      have k0_1 : w3.cell? ⟨W.heap.size, 1, none⟩ = some (.int .u64 (m : Int)) := k0.at_ 1 rfl
      have k0_2 : w3.cell? ⟨W.heap.size, 2, none⟩ = some (.int .i64 size) := k0.at_ 2 rfl
      have k0_3 : w3.cell? ⟨W.heap.size, 3, none⟩ = some (.bool big) := k0.at_ 3 rfl
      have k0_z : W.heap.size < w3.heap.size := k0.lt
      have kb3 : (convert 22 9 (.slice a zs.length c)).run Try.prog w3 = .ok (.string (strOfNums zs)) w3 := hs.conv 22 9 5 Try.underlying22 Try.underlying5 Try.underlying9
      have ko3 : (convert 22 9 (.slice a0 zs.length c0)).run Try.prog w3 = .ok (.string (strOfNums zs)) w3 := so.conv 22 9 5 Try.underlying22 Try.underlying5 Try.underlying9
      go_wp2_with fail
      go_at_call 12
      refine (rget_any _ _ _ _ _ HB.out (by omega) hx _ _ HGS.out HGE.out).mono ?_
      rintro e wx ⟨rfl, hwx⟩
      rw [hwx]
      clear hwx wx
      dsimp only
      have kn3 := run_convert_bytes_nil (P := Try.prog) w3 22 5 Try.underlying22 Try.underlying5 0 0 9 Try.underlying9
      rw [show ByteArray.empty = strOfNums [] from rfl] at kn3
      go_wp2
      refine wp_loop_rounds 1 ?_
      rw [rounds_succ]
      go_wp2
      go_ret
      exact ⟨rfl, hB3⟩
theorem octetsWindows_walk (w : World) (x0 : List Int) (ax0 : Option Addr) (cx0 : Nat) (sx0 : SlI w .u8 1 x0 ax0 cx0) (p1_0 : Int) (bp1_0 : 0 ≤ p1_0 ∧ p1_0 ≤ 18446744073709551615) (p1_1 : Int) (bp1_1 : 0 ≤ p1_1 ∧ p1_1 ≤ 18446744073709551615) (p1_2 : Int) (_b : -9223372036854775808 ≤ p1_2 ∧ p1_2 ≤ 9223372036854775807) (p1_3 : Bool) :
    Calls Try.prog 3 #[.slice ax0 x0.length cx0, .agg #[.int .u64 p1_0, .int .u64 p1_1, .int .i64 p1_2, .bool p1_3]] w fun e w' => e = .returned (.bool true) ∧ Below w.heap.size w w' := by
  obtain ⟨lo, rfl⟩ := Int.eq_ofNat_of_zero_le bp1_0.1
  obtain ⟨m, rfl⟩ := Int.eq_ofNat_of_zero_le bp1_1.1
  exact windows_any w _ _ _ sx0 _ _ ⟨bp1_0.1, by omega⟩ ⟨bp1_1.1, by omega⟩ _ _
end Go.Proofs.Ytochcepfljafoaa

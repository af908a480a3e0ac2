/- The contracts of a grid's Cut, the program's and the reference's: a part of a grid. No condition. -/
import Derived.Test.YtbckibmjjkgmnaaGridRef
import Derived.StillTailTactics
namespace Go.Proofs.Ytbckibmjjkgmnaa
open Go.RowKit Go.Shp Go.Deep
attribute [local go_sem ↓] Go.wp_at_zero Go.wp_at_succ

/-- where the i-th cell of a part comes from -/
def cutIdx (gw gh X Y rw : Int) (i : Nat) : Nat := (min (Y + (i : Int) / rw) (gh - 1) * gw + min (X + (i : Int) % rw) (gw - 1)).toNat
/-- the cells of a part -/
def cutL (gw gh X Y rw : Int) (n : Nat) (zs : List Int) : List Int := (List.range n).map fun i => zs.getD (cutIdx gw gh X Y rw i) 0
theorem cutL_len (gw gh X Y rw : Int) (n : Nat) (zs : List Int) : (cutL gw gh X Y rw n zs).length = n := by simp [cutL]
/-- a list's first cells, noughts behind them -/
def pre (l : List Int) (n p : Nat) : List Int := l.take p ++ List.replicate (n - p) 0
theorem pre_zero (l : List Int) (n : Nat) : pre l n 0 = List.replicate n 0 := by simp [pre]
theorem pre_all (l : List Int) (n : Nat) (h : l.length = n) : pre l n n = l := by simp [pre, ← h]
theorem pre_len (l : List Int) (n p : Nat) (h : l.length = n) (hp : p ≤ n) : (pre l n p).length = n := by simp [pre]; omega
theorem pre_set (l : List Int) (n p : Nat) (h : l.length = n) (hp : p < n) : (pre l n p).set p (l.getD p 0) = pre l n (p + 1) := by
  unfold pre
  have hlt : p < l.length := by omega
  rw [List.set_append_right _ _ (by simp; omega)]
  rw [show p - (l.take p).length = 0 from by simp; omega]
  obtain ⟨m, hm⟩ : ∃ m, n - p = m + 1 := ⟨n - p - 1, by omega⟩
  rw [hm, List.replicate_succ, List.set_cons_zero, show n - (p + 1) = m from by omega, List.take_succ_eq_append_getElem hlt]
  rw [show l.getD p 0 = l[p] from by simp [List.getD, hlt]]
  simp only [List.append_assoc, List.singleton_append]
theorem cutL_at (gw gh X Y rw : Int) (n : Nat) (zs : List Int) (i : Nat) (hi : i < n) : (cutL gw gh X Y rw n zs).getD i 0 = zs.getD (cutIdx gw gh X Y rw i) 0 := by simp [cutL, List.getD, hi]
theorem cutIdx_at (gw gh X Y : Int) (m y x : Nat) (hx : x < m) : cutIdx gw gh X Y (m : Int) (y * m + x) = (min (Y + (y : Int)) (gh - 1) * gw + min (X + (x : Int)) (gw - 1)).toNat := by
  have h1 : (y * m + x) / m = y := by rw [Nat.add_comm, Nat.add_mul_div_right _ _ (by omega), Nat.div_eq_of_lt hx, Nat.zero_add]
  have h2 : (y * m + x) % m = x := by rw [Nat.add_comm, Nat.add_mul_mod_self_right, Nat.mod_eq_of_lt hx]
  unfold cutIdx
  rw [show ((y * m + x : Nat) : Int) / (m : Int) = (y : Int) from by rw [← Int.natCast_ediv, h1], show ((y * m + x : Nat) : Int) % (m : Int) = (x : Int) from by rw [← Int.natCast_emod, h2]]
theorem grown_drew {a w : World} {row : Option Nat} (h : a.grownBy w row) : a.grownBy w.drew row := ⟨h.os, h.tape, h.output, h.size, h.block⟩

set_option maxHeartbeats 2000000 in
set_option maxRecDepth 100000 in
theorem cut_yes (W : World) (gw gh X Y rw rh : Int) (zs : List Int) (a : Option Addr) (c : Nat) (n : Nat) (hs : SlI W .i64 8 zs a c) (hf : fitsB rw rh = true) (hh : hasB gw gh zs.length X Y = true) (hn : rw * rh = (n : Int)) :
    Calls Try.prog 11 #[.agg #[.int .i64 gw, .int .i64 gh, .slice a zs.length c], .agg #[.int .i64 X, .int .i64 Y, .int .i64 rw, .int .i64 rh]] W fun e w' =>
      ∃ v, e = .returned (.tuple #[.agg #[.int .i64 rw, .int .i64 rh, v], .int .i64 0]) ∧ OwI w' W.heap.size 3 .i64 (cutL gw gh X Y rw n zs) v ∧ Below W.heap.size W w' := by
  obtain ⟨hr', g1, g2, g3, g4⟩ := (hasB_iff _ _ _ _ _).1 hh
  obtain ⟨⟨f1, f2, f3, f4, f5⟩, f6⟩ := (rightB_iff _ _ _).1 hr'
  obtain ⟨m1, m2, m3, m4, m5⟩ := (fitsB_iff _ _).1 hf
  have hl := hs.len63
  have HF := Lib.hid hf
  have HR := Lib.hid hr'
  have HS := Lib.hid hs
  have HN := Lib.hid hn
  have HG := Lib.hid f6
  clear hf hr' hs hh hn f6
  obtain ⟨m, rfl⟩ := Int.eq_ofNat_of_zero_le m1
  obtain ⟨q, rfl⟩ := Int.eq_ofNat_of_zero_le m2
  go_enter Try.func11, Try.ntmps11
  go_wp2_with fail
  go_at_call 35
  refine (new_yes _ _ _ n HF.out HN.out).mono ?_
  rintro e w1 ⟨g, rfl, ho, hb1⟩
  obtain ⟨hc1, hf1⟩ := bcell hb1
  have hz1_0 : W.heap.size < w1.heap.size := by have := hb1.size; (try simp at this); omega
  have hz1_1 : W.heap.size + 1 < w1.heap.size := by have := hb1.size; (try simp at this); omega
  have hz1_2 : W.heap.size + 2 < w1.heap.size := by have := hb1.size; (try simp at this); omega
  go_wp2_with fail
  go_at_call 25
  refine (right_any _ _ _ _ _ _ _ (by omega) HR.out).mono ?_
  rintro e w2 ⟨rfl, hb2⟩
  obtain ⟨hc2, hf2⟩ := bcell hb2
  have hg1 := ho.lt g rfl
  simp at hg1
  obtain ⟨hg2, hg3⟩ := hg1
  have hz2 := hb2.size
  simp at hz2
  have ho2 := (ho.alloc (.cells #[.int .i64 (m : Int), .int .i64 (q : Int), .slice (some ⟨g, 0, none⟩) n n] 28)).keep hb2 (by simp)
  have hB2 : Below W.heap.size W w2 := by repeat (first | exact Below.refl _ _ | refine Below.drew ?_ | (refine Below.alloc ?_ (by first | (simp; done) | omega | (simp; omega)) _) | (refine Below.setCell ?_ (by first | (simp; done) | omega | (simp; omega)) _) | (refine Below.trans ?_ (hb2.mono (by first | (simp; done) | omega | (simp; omega)))) | (refine Below.trans ?_ (hb1.mono (by first | (simp; done) | omega | (simp; omega)))))
  have K0 : Blk w2 (W.heap.size) 28 #[.int .i64 gw, .int .i64 gh, .slice a zs.length c] := (((((Blk.new _ _ _ rfl).alloc _).alloc _).below hb1 (by simp; omega)).alloc _).below hb2 (by simp; omega)
  have K1 : Blk w2 (W.heap.size + 1) 26 #[.int .i64 X, .int .i64 Y, .int .i64 (m : Int), .int .i64 (q : Int)] := ((((Blk.new _ _ _ (by simp)).alloc _).below hb1 (by simp)).alloc _).below hb2 (by simp; omega)
  have K2 : Blk w2 (W.heap.size + 1 + 1) 28 #[.int .i64 0, .int .i64 0, .slice none 0 0] := (((Blk.new _ _ _ (by simp)).below hb1 (by simp)).alloc _).below hb2 (by simp; omega)
  have KO : Blk w2 (w1.heap.size) 28 #[.int .i64 (m : Int), .int .i64 (q : Int), .slice (some ⟨g, 0, none⟩) n n] := (Blk.new _ _ _ rfl).below hb2 (by simp)
  clear hc1 hc2 hf1 hf2 hb1 hb2 ho
  have K0_0 : w2.cell? ⟨W.heap.size, 0, none⟩ = some (.int .i64 gw) := K0.at_ 0 rfl
  have K0_1 : w2.cell? ⟨W.heap.size, 1, none⟩ = some (.int .i64 gh) := K0.at_ 1 rfl
  have K0_2 : w2.cell? ⟨W.heap.size, 2, none⟩ = some (.slice a zs.length c) := K0.at_ 2 rfl
  have K1_0 : w2.cell? ⟨W.heap.size + 1, 0, none⟩ = some (.int .i64 X) := K1.at_ 0 rfl
  have K1_1 : w2.cell? ⟨W.heap.size + 1, 1, none⟩ = some (.int .i64 Y) := K1.at_ 1 rfl
  have K1_2 : w2.cell? ⟨W.heap.size + 1, 2, none⟩ = some (.int .i64 (m : Int)) := K1.at_ 2 rfl
  have K1_3 : w2.cell? ⟨W.heap.size + 1, 3, none⟩ = some (.int .i64 (q : Int)) := K1.at_ 3 rfl
  have K2_0 : w2.cell? ⟨W.heap.size + 1 + 1, 0, none⟩ = some (.int .i64 0) := K2.at_ 0 rfl
  have K2_1 : w2.cell? ⟨W.heap.size + 1 + 1, 1, none⟩ = some (.int .i64 0) := K2.at_ 1 rfl
  have K2_2 : w2.cell? ⟨W.heap.size + 1 + 1, 2, none⟩ = some (.slice none 0 0) := K2.at_ 2 rfl
  have KO_0 : w2.cell? ⟨w1.heap.size, 0, none⟩ = some (.int .i64 (m : Int)) := KO.at_ 0 rfl
  have KO_1 : w2.cell? ⟨w1.heap.size, 1, none⟩ = some (.int .i64 (q : Int)) := KO.at_ 1 rfl
  have KO_2 : w2.cell? ⟨w1.heap.size, 2, none⟩ = some (.slice (some ⟨g, 0, none⟩) n n) := KO.at_ 2 rfl
  go_wp2
  go_loopw [52] (fun yv wr => ∃ y : Nat, y ≤ q ∧ yv = .int .i64 (y : Int) ∧ OwI wr (W.heap.size + 3) 3 .i64 (pre (cutL gw gh X Y m n zs) n (y * m)) (.slice (some ⟨g, 0, none⟩) n n) ∧ w2.grownBy wr (some g)) (fun yv _ => q - (intOf yv).toNat)
  case atStart => exact ⟨0, Nat.zero_le _, rfl, by rw [Nat.zero_mul, pre_zero]; exact ho2.more (by simp), World.grownBy.refl _ _⟩
  case round =>
    obtain ⟨y, hy, rfl, how, hgr⟩ := hrel
    have k0 := K0.row hgr (by omega)
    have k1 := K1.row hgr (by omega)
    have k2 := K2.row hgr (by omega)
    have ko := KO.row hgr (by omega)
    have k0_0 : wr.cell? ⟨W.heap.size, 0, none⟩ = some (.int .i64 gw) := k0.at_ 0 rfl
    have k0_1 : wr.cell? ⟨W.heap.size, 1, none⟩ = some (.int .i64 gh) := k0.at_ 1 rfl
    have k0_2 : wr.cell? ⟨W.heap.size, 2, none⟩ = some (.slice a zs.length c) := k0.at_ 2 rfl
    have k1_0 : wr.cell? ⟨W.heap.size + 1, 0, none⟩ = some (.int .i64 X) := k1.at_ 0 rfl
    have k1_1 : wr.cell? ⟨W.heap.size + 1, 1, none⟩ = some (.int .i64 Y) := k1.at_ 1 rfl
    have k1_2 : wr.cell? ⟨W.heap.size + 1, 2, none⟩ = some (.int .i64 (m : Int)) := k1.at_ 2 rfl
    have k1_3 : wr.cell? ⟨W.heap.size + 1, 3, none⟩ = some (.int .i64 (q : Int)) := k1.at_ 3 rfl
    have k2_0 : wr.cell? ⟨W.heap.size + 1 + 1, 0, none⟩ = some (.int .i64 0) := k2.at_ 0 rfl
    have k2_1 : wr.cell? ⟨W.heap.size + 1 + 1, 1, none⟩ = some (.int .i64 0) := k2.at_ 1 rfl
    have k2_2 : wr.cell? ⟨W.heap.size + 1 + 1, 2, none⟩ = some (.slice none 0 0) := k2.at_ 2 rfl
    have ko_0 : wr.cell? ⟨w1.heap.size, 0, none⟩ = some (.int .i64 (m : Int)) := ko.at_ 0 rfl
    have ko_1 : wr.cell? ⟨w1.heap.size, 1, none⟩ = some (.int .i64 (q : Int)) := ko.at_ 1 rfl
    have ko_2 : wr.cell? ⟨w1.heap.size, 2, none⟩ = some (.slice (some ⟨g, 0, none⟩) n n) := ko.at_ 2 rfl
    by_cases hyq : y < q
    · go_wp2
      obtain ⟨wo, rfl⟩ : ∃ wo : World, wo = wr := ⟨_, rfl⟩
      go_loopw [57] (fun xv wi => ∃ x : Nat, x ≤ m ∧ xv = .int .i64 (x : Int) ∧ OwI wi (W.heap.size + 3) 3 .i64 (pre (cutL gw gh X Y m n zs) n (y * m + x)) (.slice (some ⟨g, 0, none⟩) n n) ∧ w2.grownBy wi (some g)) (fun xv _ => m - (intOf xv).toNat)
      case atStart => exact ⟨0, Nat.zero_le _, rfl, by simpa using how, hgr⟩
      case round =>
        clear how hgr k0 k1 k2 ko
        obtain ⟨x, hx, rfl, how, hgr⟩ := hrel
        have k0 := K0.row hgr (by omega)
        have k1 := K1.row hgr (by omega)
        have k2 := K2.row hgr (by omega)
        have ko := KO.row hgr (by omega)
        have k0_0 : wr.cell? ⟨W.heap.size, 0, none⟩ = some (.int .i64 gw) := k0.at_ 0 rfl
        have k0_1 : wr.cell? ⟨W.heap.size, 1, none⟩ = some (.int .i64 gh) := k0.at_ 1 rfl
        have k0_2 : wr.cell? ⟨W.heap.size, 2, none⟩ = some (.slice a zs.length c) := k0.at_ 2 rfl
        have k1_0 : wr.cell? ⟨W.heap.size + 1, 0, none⟩ = some (.int .i64 X) := k1.at_ 0 rfl
        have k1_1 : wr.cell? ⟨W.heap.size + 1, 1, none⟩ = some (.int .i64 Y) := k1.at_ 1 rfl
        have k1_2 : wr.cell? ⟨W.heap.size + 1, 2, none⟩ = some (.int .i64 (m : Int)) := k1.at_ 2 rfl
        have k1_3 : wr.cell? ⟨W.heap.size + 1, 3, none⟩ = some (.int .i64 (q : Int)) := k1.at_ 3 rfl
        have k2_0 : wr.cell? ⟨W.heap.size + 1 + 1, 0, none⟩ = some (.int .i64 0) := k2.at_ 0 rfl
        have k2_1 : wr.cell? ⟨W.heap.size + 1 + 1, 1, none⟩ = some (.int .i64 0) := k2.at_ 1 rfl
        have k2_2 : wr.cell? ⟨W.heap.size + 1 + 1, 2, none⟩ = some (.slice none 0 0) := k2.at_ 2 rfl
        have ko_0 : wr.cell? ⟨w1.heap.size, 0, none⟩ = some (.int .i64 (m : Int)) := ko.at_ 0 rfl
        have ko_1 : wr.cell? ⟨w1.heap.size, 1, none⟩ = some (.int .i64 (q : Int)) := ko.at_ 1 rfl
        have ko_2 : wr.cell? ⟨w1.heap.size, 2, none⟩ = some (.slice (some ⟨g, 0, none⟩) n n) := ko.at_ 2 rfl
        by_cases hxm : x < m
        · have hp : y * m + x < n := by
            have h1 : (y + 1) * m ≤ q * m := Nat.mul_le_mul_right m (by omega)
            have h2 : ((q * m : Nat) : Int) = (n : Int) := by rw [Int.natCast_mul, Int.mul_comm]; exact HN.out
            have h3 := Int.ofNat.inj h2
            rw [Nat.add_mul, Nat.one_mul] at h1
            omega
          obtain ⟨p, hpe⟩ : ∃ p, y * m + x = p := ⟨_, rfl⟩
          rw [hpe] at hp how
          have q5 : (y : Int) * (m : Int) + (x : Int) = (p : Int) := by rw [← hpe]; simp
          obtain ⟨M1, hM1⟩ : ∃ M1, (if gh - 1 < Y + (y : Int) then gh - 1 else Y + (y : Int)) = M1 := ⟨_, rfl⟩
          obtain ⟨M2, hM2⟩ : ∃ M2, (if gw - 1 < X + (x : Int) then gw - 1 else X + (x : Int)) = M2 := ⟨_, rfl⟩
          have a1 : M1 = min (Y + (y : Int)) (gh - 1) := by rw [← hM1]; split <;> omega
          have a2 : M2 = min (X + (x : Int)) (gw - 1) := by rw [← hM2]; split <;> omega
          have b1 : 0 ≤ M1 ∧ M1 < gh := by rw [a1]; omega
          have b2 : 0 ≤ M2 ∧ M2 < gw := by rw [a2]; omega
          obtain ⟨d1, d2, d3⟩ := place_bd gw gh M2 M1 b2.1 b1.1 b2.2 b1.2
          obtain ⟨s, hs⟩ := Int.eq_ofNat_of_zero_le (show 0 ≤ M1 * gw + M2 by omega)
          have hsl : s < zs.length := by have := HG.out; omega
          obtain ⟨b, off, rfl, hb, hcell⟩ := HS.out.cells (by omega)
          obtain ⟨z, hz⟩ : ∃ z, z = zs.getD s 0 := ⟨_, rfl⟩
          have hBi : Below W.heap.size W wr := hB2.grown hgr (by omega) (by intro k hk; injection hk; omega)
          have ez := (hBi.cell (p := ⟨b, off + s, none⟩) hb).trans (hcell s hsl)
          rw [← hz] at ez
          have hzw := HS.out.okAt s hsl
          rw [← hz] at hzw
          have hlen := pre_len (cutL gw gh X Y m n zs) n p (cutL_len _ _ _ _ _ _ _) (by omega)
          obtain ⟨g', hg', _, hgl, hgf, hgc⟩ := how.atN hlen (by omega)
          injection hg' with hg'
          injection hg' with hg'
          subst hg'
          have hgf := hgf p
          have hgc := hgc p hp
          obtain ⟨u, hu⟩ : ∃ u, u = (pre (cutL gw gh X Y m n zs) n p).getD p 0 := ⟨_, rfl⟩
          rw [← hu] at hgc
          have hzz : z = (cutL gw gh X Y m n zs).getD p 0 := by
            rw [cutL_at _ _ _ _ _ _ _ _ hp, hz]
            rw [← hpe, cutIdx_at _ _ _ _ _ _ _ hxm, ← a1, ← a2, hs]
            rfl
          have hset := how.setN hlen p hzw
          rw [hzz, pre_set _ _ _ (cutL_len _ _ _ _ _ _ _) hp, ← hzz] at hset
          have HSET := Lib.hid hset
          have HZ := Lib.hid hz
          have HA := Lib.hid (And.intro a1 a2)
          clear hset hz hu a1 a2 hcell how hBi hzz d2 d3 hlen
          have q1 : (0 : Int) ≤ (s : Int) := by omega
          have q2 : (s : Int) < (zs.length : Int) := by omega
          have q3 : (0 : Int) ≤ (p : Int) := by omega
          have q4 : (p : Int) < (n : Int) := by omega
          have v1 : IntKind.i64.wrap (gh - 1) = gh - 1 := IntWalk.i64_in _ (by omega)
          have v2 : IntKind.i64.wrap (gw - 1) = gw - 1 := IntWalk.i64_in _ (by omega)
          have v3 : IntKind.i64.wrap (Y + (y : Int)) = Y + (y : Int) := IntWalk.i64_in _ (by omega)
          have v4 : IntKind.i64.wrap (X + (x : Int)) = X + (x : Int) := IntWalk.i64_in _ (by omega)
          have hn' : n ≤ 4194304 := by have := HN.out; omega
          have v5 : IntKind.i64.wrap ((y : Int) * (m : Int)) = (y : Int) * (m : Int) := IntWalk.i64_in _ (by omega)
          have v6 : IntKind.i64.wrap ((y : Int) * (m : Int) + (x : Int)) = (p : Int) := by rw [q5]; exact IntWalk.i64_in _ (by omega)
          have v7 : IntKind.i64.wrap (M1 * gw) = M1 * gw := IntWalk.i64_in _ (by omega)
          have v8 : IntKind.i64.wrap (M1 * gw + M2) = (s : Int) := by rw [hs]; exact IntWalk.i64_in _ (by omega)
          have HPE := Lib.hid hpe
          clear hs q5 hpe
          go_wp2
          go_still_tail 33, (by kernel_rfl)
          go_wp2
          go_roundw
          case rel => exact ⟨x + 1, by omega, by go_num, by rw [show y * m + (x + 1) = p + 1 from by have := HPE.out; omega]; exact HSET.out.1.drew, grown_drew (hgr.trans HSET.out.2)⟩
          case measure => simp [intOf]; omega
        · obtain rfl : x = m := by omega
          have HO := Lib.hid how
          clear how
          go_wp2
          go_roundw
          case rel => exact ⟨y + 1, by omega, by go_num, by rw [Nat.add_mul, Nat.one_mul]; exact HO.out, hgr⟩
          case measure => simp [intOf]; omega
    · have HO := Lib.hid how
      have HK2 := Lib.hid k2
      have hHN := HN.out
      obtain rfl : y = q := by omega
      have k2_f0 : wr.frozen? ⟨W.heap.size + 1 + 1, 0, none⟩ = false := k2.free 0
      have k2_f1 : wr.frozen? ⟨W.heap.size + 1 + 1, 1, none⟩ = false := k2.free 1
      have k2_f2 : wr.frozen? ⟨W.heap.size + 1 + 1, 2, none⟩ = false := k2.free 2
      clear how k0 k1 k2 ko
      go_wp2
      refine bodyPost_ret (v := .tuple #[.agg #[.int .i64 (m : Int), .int .i64 (y : Int), .slice (some ⟨g, 0, none⟩) n n], .int .i64 0]) (by simp [results, Try.results11, go_sem, k2_0, k2_1, k2_2]) rfl ⟨_, rfl, ?_, ?_⟩
      · have hnm : y * m = n := by
          have h1 : ((m * y : Nat) : Int) = (n : Int) := by rw [Int.natCast_mul]; exact hHN
          have h2 := Int.ofNat.inj h1
          rw [Nat.mul_comm]; exact h2
        have h1 := HO.out
        rw [hnm, pre_all _ _ (cutL_len _ _ _ _ _ _ _)] at h1
        have h2 := h1.low (p := ⟨W.heap.size + 1 + 1, 0, none⟩) (by simp) (.int .i64 (m : Int))
        have h3 := h2.low (p := ⟨W.heap.size + 1 + 1, 1, none⟩) (by simp) (.int .i64 (y : Int))
        have h4 := h3.low (p := ⟨W.heap.size + 1 + 1, 2, none⟩) (by simp) (.slice (some ⟨g, 0, none⟩) n n)
        exact h4.more (by omega)
      · have h1 : Below W.heap.size W wr := hB2.grown hgr (by omega) (by intro k hk; injection hk; omega)
        exact ((h1.setCell (by simp; omega) _).setCell (by simp; omega) _).setCell (by simp; omega) _

set_option maxHeartbeats 4000000 in
set_option maxRecDepth 100000 in
theorem cut_no (W : World) (gw gh X Y rw rh : Int) (zs : List Int) (a : Option Addr) (c : Nat) (hl : zs.length ≤ 9223372036854775807) (hb : (fitsB rw rh && hasB gw gh zs.length X Y) = false) :
    Calls Try.prog 11 #[.agg #[.int .i64 gw, .int .i64 gh, .slice a zs.length c], .agg #[.int .i64 X, .int .i64 Y, .int .i64 rw, .int .i64 rh]] W fun e w' =>
      e = .returned (.tuple #[.agg #[.int .i64 0, .int .i64 0, .slice none 0 0], .int .i64 1]) ∧ Below W.heap.size W w' := by
  cases hf : fitsB rw rh with
  | false =>
    have HF := Lib.hid hf
    clear hf hb
    go_enter Try.func11, Try.ntmps11
    go_wp2_with fail
    go_at_call 35
    refine (new_no _ _ _ HF.out).mono ?_
    rintro e w1 ⟨rfl, hb1⟩
    obtain ⟨hc1, hf1⟩ := bcell hb1
    have hz1_0 : W.heap.size < w1.heap.size := by have := hb1.size; (try simp at this); omega
    have hz1_1 : W.heap.size + 1 < w1.heap.size := by have := hb1.size; (try simp at this); omega
    have hz1_2 : W.heap.size + 2 < w1.heap.size := by have := hb1.size; (try simp at this); omega
    have hz1_6 : W.heap.size + 1 + 1 < w1.heap.size := by omega
    go_wp2
    refine bodyPost_ret (v := .tuple #[.agg #[.int .i64 0, .int .i64 0, .slice none 0 0], .int .i64 1]) (by simp [results, Try.results11, go_sem, hc1, hz1_6]) rfl ⟨rfl, ?_⟩
    repeat (first | exact Below.refl _ _ | refine Below.drew ?_ | (refine Below.alloc ?_ (by first | (simp; done) | omega | (simp; omega)) _) | (refine Below.setCell ?_ (by first | (simp; done) | omega | (simp; omega)) _) | (refine Below.trans ?_ (hb1.mono (by first | (simp; done) | omega | (simp; omega)))))
  | true =>
    have hh : hasB gw gh zs.length X Y = false := by simpa [hf] using hb
    obtain ⟨n, hn⟩ := Int.eq_ofNat_of_zero_le (Int.mul_nonneg ((fitsB_iff _ _).1 hf).1 ((fitsB_iff _ _).1 hf).2.1)
    have HF := Lib.hid hf
    have HN := Lib.hid hn
    clear hf hn hb
    cases hr : rightB gw gh zs.length with
    | false =>
      have HR := Lib.hid hr
      clear hr hh
      go_enter Try.func11, Try.ntmps11
      go_wp2_with fail
      go_at_call 35
      refine (new_yes _ _ _ n HF.out HN.out).mono ?_
      rintro e w1 ⟨g, rfl, ho, hb1⟩
      obtain ⟨hc1, hf1⟩ := bcell hb1
      have hz1_0 : W.heap.size < w1.heap.size := by have := hb1.size; (try simp at this); omega
      have hz1_1 : W.heap.size + 1 < w1.heap.size := by have := hb1.size; (try simp at this); omega
      have hz1_2 : W.heap.size + 2 < w1.heap.size := by have := hb1.size; (try simp at this); omega
      have hz1_3 : W.heap.size < w1.heap.size + 1 := by omega
      have hz1_4 : W.heap.size + 1 < w1.heap.size + 1 := by omega
      have hz1_5 : W.heap.size + 1 + 1 < w1.heap.size + 1 := by omega
      have hz1_6 : W.heap.size + 1 + 1 < w1.heap.size := by omega
      go_wp2_with (go_at_call 25; refine (right_any _ _ _ _ _ _ _ (by omega) HR.out).mono ?_; rintro e w2 ⟨rfl, hb2⟩; obtain ⟨hc2, hf2⟩ := bcell hb2)
      refine bodyPost_ret (v := .tuple #[.agg #[.int .i64 0, .int .i64 0, .slice none 0 0], .int .i64 1]) (by simp [results, Try.results11, go_sem, hc1, hc2, hz1_5, hz1_6]) rfl ⟨rfl, ?_⟩
      repeat (first | exact Below.refl _ _ | refine Below.drew ?_ | (refine Below.alloc ?_ (by first | (simp; done) | omega | (simp; omega)) _) | (refine Below.setCell ?_ (by first | (simp; done) | omega | (simp; omega)) _) | (refine Below.trans ?_ (hb2.mono (by first | (simp; done) | omega | (simp; omega)))) | (refine Below.trans ?_ (hb1.mono (by first | (simp; done) | omega | (simp; omega)))))
    | true =>
      have hh2 : ¬ (0 ≤ X ∧ 0 ≤ Y ∧ X < gw ∧ Y < gh) := by simpa [hasB, hr] using hh
      have HR := Lib.hid hr
      clear hr hh
      by_cases t1 : X < 0
      · go_enter Try.func11, Try.ntmps11
        go_wp2_with fail
        go_at_call 35
        refine (new_yes _ _ _ n HF.out HN.out).mono ?_
        rintro e w1 ⟨g, rfl, ho, hb1⟩
        obtain ⟨hc1, hf1⟩ := bcell hb1
        have hz1_0 : W.heap.size < w1.heap.size := by have := hb1.size; (try simp at this); omega
        have hz1_1 : W.heap.size + 1 < w1.heap.size := by have := hb1.size; (try simp at this); omega
        have hz1_2 : W.heap.size + 2 < w1.heap.size := by have := hb1.size; (try simp at this); omega
        have hz1_3 : W.heap.size < w1.heap.size + 1 := by omega
        have hz1_4 : W.heap.size + 1 < w1.heap.size + 1 := by omega
        have hz1_5 : W.heap.size + 1 + 1 < w1.heap.size + 1 := by omega
        have hz1_6 : W.heap.size + 1 + 1 < w1.heap.size := by omega
        go_wp2_with (go_at_call 25; refine (right_any _ _ _ _ _ _ _ (by omega) HR.out).mono ?_; rintro e w2 ⟨rfl, hb2⟩; obtain ⟨hc2, hf2⟩ := bcell hb2)
        refine bodyPost_ret (v := .tuple #[.agg #[.int .i64 0, .int .i64 0, .slice none 0 0], .int .i64 1]) (by simp [results, Try.results11, go_sem, hc1, hc2, hz1_5, hz1_6]) rfl ⟨rfl, ?_⟩
        repeat (first | exact Below.refl _ _ | refine Below.drew ?_ | (refine Below.alloc ?_ (by first | (simp; done) | omega | (simp; omega)) _) | (refine Below.setCell ?_ (by first | (simp; done) | omega | (simp; omega)) _) | (refine Below.trans ?_ (hb2.mono (by first | (simp; done) | omega | (simp; omega)))) | (refine Below.trans ?_ (hb1.mono (by first | (simp; done) | omega | (simp; omega)))))
      · skip
        by_cases t2 : Y < 0
        · go_enter Try.func11, Try.ntmps11
          go_wp2_with fail
          go_at_call 35
          refine (new_yes _ _ _ n HF.out HN.out).mono ?_
          rintro e w1 ⟨g, rfl, ho, hb1⟩
          obtain ⟨hc1, hf1⟩ := bcell hb1
          have hz1_0 : W.heap.size < w1.heap.size := by have := hb1.size; (try simp at this); omega
          have hz1_1 : W.heap.size + 1 < w1.heap.size := by have := hb1.size; (try simp at this); omega
          have hz1_2 : W.heap.size + 2 < w1.heap.size := by have := hb1.size; (try simp at this); omega
          have hz1_3 : W.heap.size < w1.heap.size + 1 := by omega
          have hz1_4 : W.heap.size + 1 < w1.heap.size + 1 := by omega
          have hz1_5 : W.heap.size + 1 + 1 < w1.heap.size + 1 := by omega
          have hz1_6 : W.heap.size + 1 + 1 < w1.heap.size := by omega
          go_wp2_with (go_at_call 25; refine (right_any _ _ _ _ _ _ _ (by omega) HR.out).mono ?_; rintro e w2 ⟨rfl, hb2⟩; obtain ⟨hc2, hf2⟩ := bcell hb2)
          refine bodyPost_ret (v := .tuple #[.agg #[.int .i64 0, .int .i64 0, .slice none 0 0], .int .i64 1]) (by simp [results, Try.results11, go_sem, hc1, hc2, hz1_5, hz1_6]) rfl ⟨rfl, ?_⟩
          repeat (first | exact Below.refl _ _ | refine Below.drew ?_ | (refine Below.alloc ?_ (by first | (simp; done) | omega | (simp; omega)) _) | (refine Below.setCell ?_ (by first | (simp; done) | omega | (simp; omega)) _) | (refine Below.trans ?_ (hb2.mono (by first | (simp; done) | omega | (simp; omega)))) | (refine Below.trans ?_ (hb1.mono (by first | (simp; done) | omega | (simp; omega)))))
        · skip
          by_cases t3 : gw ≤ X
          · go_enter Try.func11, Try.ntmps11
            go_wp2_with fail
            go_at_call 35
            refine (new_yes _ _ _ n HF.out HN.out).mono ?_
            rintro e w1 ⟨g, rfl, ho, hb1⟩
            obtain ⟨hc1, hf1⟩ := bcell hb1
            have hz1_0 : W.heap.size < w1.heap.size := by have := hb1.size; (try simp at this); omega
            have hz1_1 : W.heap.size + 1 < w1.heap.size := by have := hb1.size; (try simp at this); omega
            have hz1_2 : W.heap.size + 2 < w1.heap.size := by have := hb1.size; (try simp at this); omega
            have hz1_3 : W.heap.size < w1.heap.size + 1 := by omega
            have hz1_4 : W.heap.size + 1 < w1.heap.size + 1 := by omega
            have hz1_5 : W.heap.size + 1 + 1 < w1.heap.size + 1 := by omega
            have hz1_6 : W.heap.size + 1 + 1 < w1.heap.size := by omega
            go_wp2_with (go_at_call 25; refine (right_any _ _ _ _ _ _ _ (by omega) HR.out).mono ?_; rintro e w2 ⟨rfl, hb2⟩; obtain ⟨hc2, hf2⟩ := bcell hb2)
            refine bodyPost_ret (v := .tuple #[.agg #[.int .i64 0, .int .i64 0, .slice none 0 0], .int .i64 1]) (by simp [results, Try.results11, go_sem, hc1, hc2, hz1_5, hz1_6]) rfl ⟨rfl, ?_⟩
            repeat (first | exact Below.refl _ _ | refine Below.drew ?_ | (refine Below.alloc ?_ (by first | (simp; done) | omega | (simp; omega)) _) | (refine Below.setCell ?_ (by first | (simp; done) | omega | (simp; omega)) _) | (refine Below.trans ?_ (hb2.mono (by first | (simp; done) | omega | (simp; omega)))) | (refine Below.trans ?_ (hb1.mono (by first | (simp; done) | omega | (simp; omega)))))
          · skip
            have t4 : gh ≤ Y := by omega
            clear hh2
            go_enter Try.func11, Try.ntmps11
            go_wp2_with fail
            go_at_call 35
            refine (new_yes _ _ _ n HF.out HN.out).mono ?_
            rintro e w1 ⟨g, rfl, ho, hb1⟩
            obtain ⟨hc1, hf1⟩ := bcell hb1
            have hz1_0 : W.heap.size < w1.heap.size := by have := hb1.size; (try simp at this); omega
            have hz1_1 : W.heap.size + 1 < w1.heap.size := by have := hb1.size; (try simp at this); omega
            have hz1_2 : W.heap.size + 2 < w1.heap.size := by have := hb1.size; (try simp at this); omega
            have hz1_3 : W.heap.size < w1.heap.size + 1 := by omega
            have hz1_4 : W.heap.size + 1 < w1.heap.size + 1 := by omega
            have hz1_5 : W.heap.size + 1 + 1 < w1.heap.size + 1 := by omega
            have hz1_6 : W.heap.size + 1 + 1 < w1.heap.size := by omega
            go_wp2_with (go_at_call 25; refine (right_any _ _ _ _ _ _ _ (by omega) HR.out).mono ?_; rintro e w2 ⟨rfl, hb2⟩; obtain ⟨hc2, hf2⟩ := bcell hb2)
            refine bodyPost_ret (v := .tuple #[.agg #[.int .i64 0, .int .i64 0, .slice none 0 0], .int .i64 1]) (by simp [results, Try.results11, go_sem, hc1, hc2, hz1_5, hz1_6]) rfl ⟨rfl, ?_⟩
            repeat (first | exact Below.refl _ _ | refine Below.drew ?_ | (refine Below.alloc ?_ (by first | (simp; done) | omega | (simp; omega)) _) | (refine Below.setCell ?_ (by first | (simp; done) | omega | (simp; omega)) _) | (refine Below.trans ?_ (hb2.mono (by first | (simp; done) | omega | (simp; omega)))) | (refine Below.trans ?_ (hb1.mono (by first | (simp; done) | omega | (simp; omega)))))
end Go.Proofs.Ytbckibmjjkgmnaa

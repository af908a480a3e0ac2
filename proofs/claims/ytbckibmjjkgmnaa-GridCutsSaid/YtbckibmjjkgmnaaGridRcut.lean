/- The contract of the reference's Cut: a part of a grid. No condition. -/
import Derived.Test.YtbckibmjjkgmnaaGridCut
import Derived.Test.YtbckibmjjkgmnaaRegion
namespace Go.Proofs.Ytbckibmjjkgmnaa
open Go.RowKit Go.Shp Go.Deep
attribute [local go_sem ↓] Go.wp_at_zero Go.wp_at_succ
theorem cutIdx_min (gw gh X Y : Int) (m i : Nat) (_hm : 0 < m) : cutIdx gw gh X Y (m : Int) i = (min (Y + ((i / m : Nat) : Int)) (gh - 1) * gw + min (X + ((i % m : Nat) : Int)) (gw - 1)).toNat := by
  unfold cutIdx
  rw [Int.natCast_ediv, Int.natCast_emod]
theorem take_snoc_getD (l : List Int) (k : Nat) (h : k < l.length) : l.take (k + 1) = l.take k ++ [l.getD k 0] := by
  rw [List.take_succ_eq_append_getElem h]; simp [List.getD, h]

set_option maxHeartbeats 4000000 in
set_option maxRecDepth 100000 in
theorem rcut_yes (W : World) (gw gh X Y rw rh : Int) (zs : List Int) (a : Option Addr) (c : Nat) (n : Nat) (hs : SlI W .i64 8 zs a c) (hf : fitsB rw rh = true) (hh : hasB gw gh zs.length X Y = true) (hn : rw * rh = (n : Int)) :
    Calls Try.prog 12 #[.agg #[.int .i64 gw, .int .i64 gh, .slice a zs.length c], .agg #[.int .i64 X, .int .i64 Y, .int .i64 rw, .int .i64 rh]] W fun e w' =>
      ∃ v, e = .returned (.tuple #[.agg #[.int .i64 rw, .int .i64 rh, v], .int .i64 0]) ∧ OwI w' W.heap.size 3 .i64 (cutL gw gh X Y rw n zs) v ∧ Below W.heap.size W w' := by
  obtain ⟨hr', g1, g2, g3, g4⟩ := (hasB_iff _ _ _ _ _).1 hh
  obtain ⟨⟨f1, f2, f3, f4, f5⟩, f6⟩ := (rightB_iff _ _ _).1 hr'
  obtain ⟨m1, m2, m3, m4, m5⟩ := (fitsB_iff _ _).1 hf
  have hl := hs.len63
  have HF := Lib.hid hf
  have HH := Lib.hid hh
  have HS := Lib.hid hs
  have HN := Lib.hid hn
  have HG := Lib.hid f6
  have hn' : n ≤ 4194304 := by omega
  have hn4 : rw * rh ≤ 4194304 := m5
  have hn5 : 0 ≤ rw * rh := by omega
  clear hf hr' hs hh f6
  obtain ⟨m, rfl⟩ := Int.eq_ofNat_of_zero_le m1
  obtain ⟨q, rfl⟩ := Int.eq_ofNat_of_zero_le m2
  go_enter Try.func12, Try.ntmps12
  go_wp2_with (first | (go_at_call 27; refine (can_any _ _ _).mono ?_; rintro e w' ⟨rfl, rfl⟩) | (go_at_call 23; refine (has_any _ _ _ _ _ _ _ _ _ (by omega) HH.out).mono ?_; rintro e w2 ⟨rfl, hb2⟩; obtain ⟨hc2, hf2⟩ := bcell hb2))
  obtain ⟨BO, hBO⟩ : ∃ BO, BO = w2.heap.size := ⟨_, rfl⟩
  rw [← hBO]
  have hz2 := hb2.size
  simp at hz2
  rw [← hBO] at hz2
  have K0 : Blk (w2.alloc (.cells #[.int .i64 (m : Int), .int .i64 (q : Int), .slice none 0 0] 30)) (W.heap.size) 30 #[.int .i64 gw, .int .i64 gh, .slice a zs.length c] := ((((Blk.new _ _ _ rfl).alloc _).alloc _).below hb2 (by simp; omega)).alloc _
  have K1 : Blk (w2.alloc (.cells #[.int .i64 (m : Int), .int .i64 (q : Int), .slice none 0 0] 30)) (W.heap.size + 1) 26 #[.int .i64 X, .int .i64 Y, .int .i64 (m : Int), .int .i64 (q : Int)] := (((Blk.new _ _ _ (by simp)).alloc _).below hb2 (by simp)).alloc _
  have K2 : Blk (w2.alloc (.cells #[.int .i64 (m : Int), .int .i64 (q : Int), .slice none 0 0] 30)) (W.heap.size + 1 + 1) 30 #[.int .i64 0, .int .i64 0, .slice none 0 0] := ((Blk.new _ _ _ (by simp)).below hb2 (by simp)).alloc _
  have KO : Blk (w2.alloc (.cells #[.int .i64 (m : Int), .int .i64 (q : Int), .slice none 0 0] 30)) BO 30 #[.int .i64 (m : Int), .int .i64 (q : Int), .slice none 0 0] := Blk.new _ _ _ hBO.symm
  have hB2 : Below W.heap.size W (w2.alloc (.cells #[.int .i64 (m : Int), .int .i64 (q : Int), .slice none 0 0] 30)) := by repeat (first | exact Below.refl _ _ | refine Below.drew ?_ | refine below_drewN ?_ _ | (refine Below.alloc ?_ (by first | (simp; done) | omega | (simp; omega)) _) | (refine Below.setCell ?_ (by first | (simp; done) | omega | (simp; omega)) _) | (refine Below.trans ?_ (hb2.mono (by first | (simp; done) | omega | (simp; omega)))))
  have hsz : (w2.alloc (.cells #[.int .i64 (m : Int), .int .i64 (q : Int), .slice none 0 0] 30)).heap.size = BO + 1 := by simp [hBO]
  generalize w2.alloc (.cells #[.int .i64 (m : Int), .int .i64 (q : Int), .slice none 0 0] 30) = w3 at *
  clear hc2 hf2 hb2 hBO
  go_loopw [7] (fun iv wr => ∃ i : Nat, i ≤ n ∧ iv = .int .i64 (i : Int) ∧ (∃ a' c', OwI wr (BO + 1) 3 .i64 ((cutL gw gh X Y m n zs).take i) (.slice a' i c') ∧ Blk wr BO 30 #[.int .i64 (m : Int), .int .i64 (q : Int), .slice a' i c']) ∧ Below BO w3 wr) (fun iv _ => n - (intOf iv).toNat)
  case atStart => exact ⟨0, Nat.zero_le _, rfl, ⟨none, 0, OwI.nil _ _ _ _, KO⟩, Below.refl _ _⟩
  case round =>
    obtain ⟨i, hi, rfl, ⟨a', c', how, ko⟩, hbr⟩ := hrel
    have k0 := K0.below hbr (by omega)
    have k1 := K1.below hbr (by omega)
    have k2 := K2.below hbr (by omega)
    have k0_0 : wr.cell? ⟨W.heap.size, 0, none⟩ = some (.int .i64 gw) := k0.at_ 0 rfl
    have k0_1 : wr.cell? ⟨W.heap.size, 1, none⟩ = some (.int .i64 gh) := k0.at_ 1 rfl
    have k0_2 : wr.cell? ⟨W.heap.size, 2, none⟩ = some (.slice a zs.length c) := k0.at_ 2 rfl
    have k1_0 : wr.cell? ⟨W.heap.size + 1, 0, none⟩ = some (.int .i64 X) := k1.at_ 0 rfl
    have k1_1 : wr.cell? ⟨W.heap.size + 1, 1, none⟩ = some (.int .i64 Y) := k1.at_ 1 rfl
    have k1_2 : wr.cell? ⟨W.heap.size + 1, 2, none⟩ = some (.int .i64 (m : Int)) := k1.at_ 2 rfl
    have k1_3 : wr.cell? ⟨W.heap.size + 1, 3, none⟩ = some (.int .i64 (q : Int)) := k1.at_ 3 rfl
    have k2_0 : wr.cell? ⟨W.heap.size + 1 + 1, 0, none⟩ = some (.int .i64 0) := k2.at_ 0 rfl
    have k2_1 : wr.cell? ⟨W.heap.size + 1 + 1, 1, none⟩ = some (.int .i64 0) := k2.at_ 1 rfl
    have k2_2 : wr.cell? ⟨W.heap.size + 1 + 1, 2, none⟩ = some (.slice none 0 0) := k2.at_ 2 rfl
    have hko2 : wr.cell? ⟨BO, 2, none⟩ = some (.slice a' i c') := ko.at_ 2 rfl
    have hkf : wr.frozen? ⟨BO, 2, none⟩ = false := ko.free 2
    by_cases hin : i < n
    · have hm0 : 0 < m := by
        rcases Nat.eq_zero_or_pos m with h | h
        · subst h; simp at hn; omega
        · exact h
      obtain ⟨xm, hxm⟩ : ∃ xm, xm = i % m := ⟨_, rfl⟩
      obtain ⟨ym, hym⟩ : ∃ ym, ym = i / m := ⟨_, rfl⟩
      have hx1 : xm < m := by rw [hxm]; exact Nat.mod_lt _ hm0
      have hy1 : ym < q := by
        rw [hym]
        refine Nat.div_lt_of_lt_mul ?_
        have h2 : ((m * q : Nat) : Int) = (n : Int) := by rw [Int.natCast_mul]; exact hn
        have h3 := Int.ofNat.inj h2
        omega
      have e1 : ((i : Int)).tmod (m : Int) = (xm : Int) := by rw [hxm, Int.natCast_emod, Int.tmod_eq_emod_of_nonneg (by omega)]
      have e2 : ((i : Int)).tdiv (m : Int) = (ym : Int) := by rw [hym, Int.natCast_ediv, Int.tdiv_eq_ediv_of_nonneg (by omega)]
      have e3 : (i : Int) % (m : Int) = (xm : Int) := by rw [hxm, Int.natCast_emod]
      have e4 : (i : Int) / (m : Int) = (ym : Int) := by rw [hym, Int.natCast_ediv]
      have v1 : IntKind.i64.wrap (X + (xm : Int)) = X + (xm : Int) := IntWalk.i64_in _ (by omega)
      have v2 : IntKind.i64.wrap (Y + (ym : Int)) = Y + (ym : Int) := IntWalk.i64_in _ (by omega)
      have v3 : IntKind.i64.wrap ((ym : Int)) = (ym : Int) := IntWalk.i64_in _ (by omega)
      have v4 : ((m : Int) == 0) = false := by simp; omega
      have v5 : ¬ (m : Int) = 0 := by omega
      have HXY := Lib.hid (And.intro hxm hym)
      have hlt : (i : Int) < (m : Int) * (q : Int) := by omega
      have HM := Lib.hid hn
      have hBi : Below W.heap.size W wr := hB2.trans (hbr.mono (by omega))
      have hws : BO + 1 ≤ wr.heap.size := by have := hbr.size; omega
      clear hxm hym hn K0 K1 K2 KO hB2
      by_cases c1 : gw ≤ X + (xm : Int)
      · by_cases c2 : gh ≤ Y + (ym : Int)
        · obtain ⟨d1, d2, d3⟩ := place_bd gw gh (gw - 1) (gh - 1) (by omega) (by omega) (by omega) (by omega)
          obtain ⟨s, hs⟩ := Int.eq_ofNat_of_zero_le (show 0 ≤ (gh - 1) * gw + (gw - 1) by omega)
          have hsl : s < zs.length := by have := HG.out; omega
          obtain ⟨b, off, rfl, hb, hcell⟩ := HS.out.cells (by omega)
          obtain ⟨z, hz⟩ : ∃ z, z = zs.getD s 0 := ⟨_, rfl⟩
          have ez := (hBi.cell (p := ⟨b, off + s, none⟩) hb).trans (hcell s hsl)
          rw [← hz] at ez
          have hzw := HS.out.okAt s hsl
          rw [← hz] at hzw
          have hzz : z = (cutL gw gh X Y m n zs).getD i 0 := by
            rw [cutL_at _ _ _ _ _ _ _ _ hin, hz, cutIdx_min _ _ _ _ _ _ hm0, ← HXY.out.1, ← HXY.out.2, show min (Y + (ym : Int)) (gh - 1) = gh - 1 by omega, show min (X + (xm : Int)) (gw - 1) = gw - 1 by omega, hs]
            rfl
          have htk := take_snoc_getD (cutL gw gh X Y m n zs) i (by rw [cutL_len]; exact hin)
          rw [← hzz] at htk
          have HTK := Lib.hid htk
          have hlen : ((cutL gw gh X Y m n zs).take i).length = i := by rw [List.length_take, cutL_len]; omega
          have HL := Lib.hid hlen
          have q1 : (0 : Int) ≤ (s : Int) := by omega
          have q2 : (s : Int) < (zs.length : Int) := by omega
          have w1' : IntKind.i64.wrap ((gh - 1) * gw) = (gh - 1) * gw := IntWalk.i64_in _ (by omega)
          have w2' : IntKind.i64.wrap ((gh - 1) * gw + (gw - 1)) = (s : Int) := by rw [hs]; exact IntWalk.i64_in _ (by omega)
          clear hs hz hzz htk hcell d2 d3 hlen
          go_wp2
          go_quiet (fail)
          go_wp2
          refine wp_region_K 15 (fun w' => w'.cell? ⟨BO, 2, none⟩ = some (.slice a' i c') ∧ w'.cell? ⟨W.heap.size, 2, none⟩ = some (.slice (some ⟨b, off, none⟩) zs.length c) ∧ w'.cell? ⟨W.heap.size, 0, none⟩ = some (.int .i64 gw) ∧ w'.cell? ⟨b, off + s, none⟩ = some (.int .i64 z)) (by kernel_rfl) ?_ (fun hH => ?_)
          · go_keep
          refine wpAnyK_take (i := 0) (v := ?_) rfl (by kernel_rfl) (fun _ _ _ h => h) hH (Or.inl ⟨by rfl, ?_⟩) ?_
          rotate_left
          · intro w hSw; (try dsimp only at hSw); go_simp; (try with_reducible rfl)
          try simp only [Act.put]
          refine wpAnyK_take (i := 1) (v := ?_) rfl (by kernel_rfl) (fun _ _ _ h => h) hH (Or.inl ⟨by rfl, ?_⟩) ?_
          rotate_left
          · intro w hSw; (try dsimp only at hSw); go_simp; (try with_reducible rfl)
          try simp only [Act.put]
          refine wpAnyK_take (i := 2) (v := ?_) rfl (by kernel_rfl) (fun _ _ _ h => h) hH (Or.inl ⟨by rfl, ?_⟩) ?_
          rotate_left
          · intro w hSw; (try dsimp only at hSw); go_simp; (try with_reducible rfl)
          try simp only [Act.put]
          refine wpAnyK_take (i := 3) (v := ?_) rfl (by kernel_rfl) (fun _ _ _ h => h) hH (Or.inl ⟨by rfl, ?_⟩) ?_
          rotate_left
          · intro w hSw; (try dsimp only at hSw); go_simp; (try with_reducible rfl)
          try simp only [Act.put]
          refine wpAnyK_take (i := 4) (v := ?_) rfl (by kernel_rfl) (fun _ _ _ h => h) hH (Or.inl ⟨by rfl, ?_⟩) ?_
          rotate_left
          · intro w hSw; (try dsimp only at hSw); go_simp; (try with_reducible rfl)
          try simp only [Act.put]
          refine wpAnyK_take (i := 5) (v := ?_) rfl (by kernel_rfl) (fun _ _ _ h => h) hH (Or.inl ⟨by rfl, ?_⟩) ?_
          rotate_left
          · intro w hSw; (try dsimp only at hSw); go_simp; (try with_reducible rfl)
          try simp only [Act.put]
          refine wpAnyK_take (i := 6) (v := ?_) rfl (by kernel_rfl) (fun _ _ _ h => h) hH (Or.inl ⟨by rfl, ?_⟩) ?_
          rotate_left
          · intro w hSw; (try dsimp only at hSw); go_simp; (try with_reducible rfl)
          try simp only [Act.put]
          refine wpAnyK_take (i := 7) (v := ?_) rfl (by kernel_rfl) (fun _ _ _ h => h) hH (Or.inl ⟨by rfl, ?_⟩) ?_
          rotate_left
          · intro w hSw; (try dsimp only at hSw); go_simp; (try with_reducible rfl)
          try simp only [Act.put]
          refine wpAnyK_take (i := 8) (v := ?_) rfl (by kernel_rfl) (fun _ _ _ h => h) hH (Or.inl ⟨by rfl, ?_⟩) ?_
          rotate_left
          · intro w hSw; (try dsimp only at hSw); go_simp; (try with_reducible rfl)
          try simp only [Act.put]
          refine wpAnyK_take (i := 9) (v := ?_) rfl (by kernel_rfl) (fun _ _ _ h => h) hH (Or.inl ⟨by rfl, ?_⟩) ?_
          rotate_left
          · intro w hSw; (try dsimp only at hSw); go_simp; (try with_reducible rfl)
          try simp only [Act.put]
          refine wpAnyK_take (i := 10) (v := ?_) rfl (by kernel_rfl) (fun _ _ _ h => h) hH (Or.inl ⟨by rfl, ?_⟩) ?_
          rotate_left
          · intro w hSw; (try dsimp only at hSw); go_simp; (try with_reducible rfl)
          try simp only [Act.put]
          refine wpAnyK_take (i := 11) (v := ?_) rfl (by kernel_rfl) (fun _ _ _ h => h) hH (Or.inl ⟨by rfl, ?_⟩) ?_
          rotate_left
          · intro w hSw; (try dsimp only at hSw); go_simp; (try with_reducible rfl)
          try simp only [Act.put]
          refine wpAnyK_step (i := 12) rfl (by kernel_rfl) (fun K hK => ?_)
          go_simp
          refine hK.out _ _ ?_ (fun hH2 => ?_)
          · go_keep
          clear hK K hH
          try simp only [Act.put]
          have hH := hH2
          clear hH2
          refine wpAnyK_step (i := 13) rfl (by kernel_rfl) (fun K hK => ?_)
          refine step_append_sl E22 (by rfl) (.tmp 69) (.tmp 80) (by rfl) (BO + 1) (by rfl) (by rfl) rfl (how.keep (B := wr.heap.size) (by repeat (first | exact Below.refl _ _ | refine Below.drew ?_ | refine below_drewN ?_ _ | (refine Below.alloc ?_ (by first | (simp; done) | omega | (simp; omega)) _) | (refine Below.setCell ?_ (by first | (simp; done) | omega | (simp; omega)) _))) (Nat.le_refl _)) (SlI.one (bytes := 8) (by first | exact (Blk.new _ _ _ (by simp)).at_ 0 rfl | exact (Blk.new _ _ _ (by simp)).drew.at_ 0 rfl) hzw (by omega)) (N := i + 1) (by rw [HL.out]; rfl) (by omega) (by omega) (by simp; omega) ?_
          intro a1 c1 w1 hown1 hg1 hb1
          have ko1 := ((ko.drewN _).alloc _).below hb1 (by omega)
          have hfo := ko1.free 2
          have hco : w1.cell? ⟨BO, 2, none⟩ = some (.slice a' i c') := ko1.at_ 2 rfl
          have HC1 := Lib.hid (bcell hb1).1
          clear hg1
          refine hK.out _ _ ?_ (fun hH2 => ?_)
          · go_split_ands; refine ⟨?_, ?_, ?_, ?_⟩ <;> (rw [HC1.out _ _ (by omega)]; assumption)
          clear hK K hH
          try simp only [Act.put]
          have hH := hH2
          clear hH2
          refine wpAnyK_take (i := 14) (v := ?_) rfl (by kernel_rfl) (fun _ _ _ h => h) hH (Or.inl ⟨by rfl, ?_⟩) ?_
          rotate_left
          · intro w hSw; (try dsimp only at hSw); go_simp; (try with_reducible rfl)
          try simp only [Act.put]
          refine wpAnyK_last rfl (by kernel_rfl) (by kernel_rfl) (fun K hK => ?_)
          go_simp
          refine hK _ _ ?_
          clear hK K hH
          try simp only [Act.put]
          go_wp2
          go_roundw
          case rel =>
            refine ⟨i + 1, by omega, by go_num, ⟨a1, c1, ?_, ?_⟩, ?_⟩
            · rw [HTK.out]; exact hown1.low (by simp) _
            · exact ko1.set 2 _
            · exact ((hbr.trans (((below_drewN (Below.refl _ _) _).alloc (by simp; omega) _).trans (hb1.mono (by omega)))).setCell (by simp) _)
          case measure => simp [intOf]; omega
        · obtain ⟨d1, d2, d3⟩ := place_bd gw gh (gw - 1) (Y + (ym : Int)) (by omega) (by omega) (by omega) (by omega)
          obtain ⟨s, hs⟩ := Int.eq_ofNat_of_zero_le (show 0 ≤ (Y + (ym : Int)) * gw + (gw - 1) by omega)
          have hsl : s < zs.length := by have := HG.out; omega
          obtain ⟨b, off, rfl, hb, hcell⟩ := HS.out.cells (by omega)
          obtain ⟨z, hz⟩ : ∃ z, z = zs.getD s 0 := ⟨_, rfl⟩
          have ez := (hBi.cell (p := ⟨b, off + s, none⟩) hb).trans (hcell s hsl)
          rw [← hz] at ez
          have hzw := HS.out.okAt s hsl
          rw [← hz] at hzw
          have hzz : z = (cutL gw gh X Y m n zs).getD i 0 := by
            rw [cutL_at _ _ _ _ _ _ _ _ hin, hz, cutIdx_min _ _ _ _ _ _ hm0, ← HXY.out.1, ← HXY.out.2, show min (Y + (ym : Int)) (gh - 1) = Y + (ym : Int) by omega, show min (X + (xm : Int)) (gw - 1) = gw - 1 by omega, hs]
            rfl
          have htk := take_snoc_getD (cutL gw gh X Y m n zs) i (by rw [cutL_len]; exact hin)
          rw [← hzz] at htk
          have HTK := Lib.hid htk
          have hlen : ((cutL gw gh X Y m n zs).take i).length = i := by rw [List.length_take, cutL_len]; omega
          have HL := Lib.hid hlen
          have q1 : (0 : Int) ≤ (s : Int) := by omega
          have q2 : (s : Int) < (zs.length : Int) := by omega
          have w1' : IntKind.i64.wrap ((Y + (ym : Int)) * gw) = (Y + (ym : Int)) * gw := IntWalk.i64_in _ (by omega)
          have w2' : IntKind.i64.wrap ((Y + (ym : Int)) * gw + (gw - 1)) = (s : Int) := by rw [hs]; exact IntWalk.i64_in _ (by omega)
          clear hs hz hzz htk hcell d2 d3 hlen
          go_wp2
          go_quiet (fail)
          go_wp2
          refine wp_region_K 15 (fun w' => w'.cell? ⟨BO, 2, none⟩ = some (.slice a' i c') ∧ w'.cell? ⟨W.heap.size, 2, none⟩ = some (.slice (some ⟨b, off, none⟩) zs.length c) ∧ w'.cell? ⟨W.heap.size, 0, none⟩ = some (.int .i64 gw) ∧ w'.cell? ⟨b, off + s, none⟩ = some (.int .i64 z)) (by kernel_rfl) ?_ (fun hH => ?_)
          · go_keep
          refine wpAnyK_take (i := 0) (v := ?_) rfl (by kernel_rfl) (fun _ _ _ h => h) hH (Or.inl ⟨by rfl, ?_⟩) ?_
          rotate_left
          · intro w hSw; (try dsimp only at hSw); go_simp; (try with_reducible rfl)
          try simp only [Act.put]
          refine wpAnyK_take (i := 1) (v := ?_) rfl (by kernel_rfl) (fun _ _ _ h => h) hH (Or.inl ⟨by rfl, ?_⟩) ?_
          rotate_left
          · intro w hSw; (try dsimp only at hSw); go_simp; (try with_reducible rfl)
          try simp only [Act.put]
          refine wpAnyK_take (i := 2) (v := ?_) rfl (by kernel_rfl) (fun _ _ _ h => h) hH (Or.inl ⟨by rfl, ?_⟩) ?_
          rotate_left
          · intro w hSw; (try dsimp only at hSw); go_simp; (try with_reducible rfl)
          try simp only [Act.put]
          refine wpAnyK_take (i := 3) (v := ?_) rfl (by kernel_rfl) (fun _ _ _ h => h) hH (Or.inl ⟨by rfl, ?_⟩) ?_
          rotate_left
          · intro w hSw; (try dsimp only at hSw); go_simp; (try with_reducible rfl)
          try simp only [Act.put]
          refine wpAnyK_take (i := 4) (v := ?_) rfl (by kernel_rfl) (fun _ _ _ h => h) hH (Or.inl ⟨by rfl, ?_⟩) ?_
          rotate_left
          · intro w hSw; (try dsimp only at hSw); go_simp; (try with_reducible rfl)
          try simp only [Act.put]
          refine wpAnyK_take (i := 5) (v := ?_) rfl (by kernel_rfl) (fun _ _ _ h => h) hH (Or.inl ⟨by rfl, ?_⟩) ?_
          rotate_left
          · intro w hSw; (try dsimp only at hSw); go_simp; (try with_reducible rfl)
          try simp only [Act.put]
          refine wpAnyK_take (i := 6) (v := ?_) rfl (by kernel_rfl) (fun _ _ _ h => h) hH (Or.inl ⟨by rfl, ?_⟩) ?_
          rotate_left
          · intro w hSw; (try dsimp only at hSw); go_simp; (try with_reducible rfl)
          try simp only [Act.put]
          refine wpAnyK_take (i := 7) (v := ?_) rfl (by kernel_rfl) (fun _ _ _ h => h) hH (Or.inl ⟨by rfl, ?_⟩) ?_
          rotate_left
          · intro w hSw; (try dsimp only at hSw); go_simp; (try with_reducible rfl)
          try simp only [Act.put]
          refine wpAnyK_take (i := 8) (v := ?_) rfl (by kernel_rfl) (fun _ _ _ h => h) hH (Or.inl ⟨by rfl, ?_⟩) ?_
          rotate_left
          · intro w hSw; (try dsimp only at hSw); go_simp; (try with_reducible rfl)
          try simp only [Act.put]
          refine wpAnyK_take (i := 9) (v := ?_) rfl (by kernel_rfl) (fun _ _ _ h => h) hH (Or.inl ⟨by rfl, ?_⟩) ?_
          rotate_left
          · intro w hSw; (try dsimp only at hSw); go_simp; (try with_reducible rfl)
          try simp only [Act.put]
          refine wpAnyK_take (i := 10) (v := ?_) rfl (by kernel_rfl) (fun _ _ _ h => h) hH (Or.inl ⟨by rfl, ?_⟩) ?_
          rotate_left
          · intro w hSw; (try dsimp only at hSw); go_simp; (try with_reducible rfl)
          try simp only [Act.put]
          refine wpAnyK_take (i := 11) (v := ?_) rfl (by kernel_rfl) (fun _ _ _ h => h) hH (Or.inl ⟨by rfl, ?_⟩) ?_
          rotate_left
          · intro w hSw; (try dsimp only at hSw); go_simp; (try with_reducible rfl)
          try simp only [Act.put]
          refine wpAnyK_step (i := 12) rfl (by kernel_rfl) (fun K hK => ?_)
          go_simp
          refine hK.out _ _ ?_ (fun hH2 => ?_)
          · go_keep
          clear hK K hH
          try simp only [Act.put]
          have hH := hH2
          clear hH2
          refine wpAnyK_step (i := 13) rfl (by kernel_rfl) (fun K hK => ?_)
          refine step_append_sl E22 (by rfl) (.tmp 69) (.tmp 80) (by rfl) (BO + 1) (by rfl) (by rfl) rfl (how.keep (B := wr.heap.size) (by repeat (first | exact Below.refl _ _ | refine Below.drew ?_ | refine below_drewN ?_ _ | (refine Below.alloc ?_ (by first | (simp; done) | omega | (simp; omega)) _) | (refine Below.setCell ?_ (by first | (simp; done) | omega | (simp; omega)) _))) (Nat.le_refl _)) (SlI.one (bytes := 8) (by first | exact (Blk.new _ _ _ (by simp)).at_ 0 rfl | exact (Blk.new _ _ _ (by simp)).drew.at_ 0 rfl) hzw (by omega)) (N := i + 1) (by rw [HL.out]; rfl) (by omega) (by omega) (by simp; omega) ?_
          intro a1 c1 w1 hown1 hg1 hb1
          have ko1 := ((ko.drewN _).alloc _).below hb1 (by omega)
          have hfo := ko1.free 2
          have hco : w1.cell? ⟨BO, 2, none⟩ = some (.slice a' i c') := ko1.at_ 2 rfl
          have HC1 := Lib.hid (bcell hb1).1
          clear hg1
          refine hK.out _ _ ?_ (fun hH2 => ?_)
          · go_split_ands; refine ⟨?_, ?_, ?_, ?_⟩ <;> (rw [HC1.out _ _ (by omega)]; assumption)
          clear hK K hH
          try simp only [Act.put]
          have hH := hH2
          clear hH2
          refine wpAnyK_take (i := 14) (v := ?_) rfl (by kernel_rfl) (fun _ _ _ h => h) hH (Or.inl ⟨by rfl, ?_⟩) ?_
          rotate_left
          · intro w hSw; (try dsimp only at hSw); go_simp; (try with_reducible rfl)
          try simp only [Act.put]
          refine wpAnyK_last rfl (by kernel_rfl) (by kernel_rfl) (fun K hK => ?_)
          go_simp
          refine hK _ _ ?_
          clear hK K hH
          try simp only [Act.put]
          go_wp2
          go_roundw
          case rel =>
            refine ⟨i + 1, by omega, by go_num, ⟨a1, c1, ?_, ?_⟩, ?_⟩
            · rw [HTK.out]; exact hown1.low (by simp) _
            · exact ko1.set 2 _
            · exact ((hbr.trans (((below_drewN (Below.refl _ _) _).alloc (by simp; omega) _).trans (hb1.mono (by omega)))).setCell (by simp) _)
          case measure => simp [intOf]; omega
      · by_cases c2 : gh ≤ Y + (ym : Int)
        · obtain ⟨d1, d2, d3⟩ := place_bd gw gh (X + (xm : Int)) (gh - 1) (by omega) (by omega) (by omega) (by omega)
          obtain ⟨s, hs⟩ := Int.eq_ofNat_of_zero_le (show 0 ≤ (gh - 1) * gw + (X + (xm : Int)) by omega)
          have hsl : s < zs.length := by have := HG.out; omega
          obtain ⟨b, off, rfl, hb, hcell⟩ := HS.out.cells (by omega)
          obtain ⟨z, hz⟩ : ∃ z, z = zs.getD s 0 := ⟨_, rfl⟩
          have ez := (hBi.cell (p := ⟨b, off + s, none⟩) hb).trans (hcell s hsl)
          rw [← hz] at ez
          have hzw := HS.out.okAt s hsl
          rw [← hz] at hzw
          have hzz : z = (cutL gw gh X Y m n zs).getD i 0 := by
            rw [cutL_at _ _ _ _ _ _ _ _ hin, hz, cutIdx_min _ _ _ _ _ _ hm0, ← HXY.out.1, ← HXY.out.2, show min (Y + (ym : Int)) (gh - 1) = gh - 1 by omega, show min (X + (xm : Int)) (gw - 1) = X + (xm : Int) by omega, hs]
            rfl
          have htk := take_snoc_getD (cutL gw gh X Y m n zs) i (by rw [cutL_len]; exact hin)
          rw [← hzz] at htk
          have HTK := Lib.hid htk
          have hlen : ((cutL gw gh X Y m n zs).take i).length = i := by rw [List.length_take, cutL_len]; omega
          have HL := Lib.hid hlen
          have q1 : (0 : Int) ≤ (s : Int) := by omega
          have q2 : (s : Int) < (zs.length : Int) := by omega
          have w1' : IntKind.i64.wrap ((gh - 1) * gw) = (gh - 1) * gw := IntWalk.i64_in _ (by omega)
          have w2' : IntKind.i64.wrap ((gh - 1) * gw + (X + (xm : Int))) = (s : Int) := by rw [hs]; exact IntWalk.i64_in _ (by omega)
          clear hs hz hzz htk hcell d2 d3 hlen
          go_wp2
          go_quiet (fail)
          go_wp2
          refine wp_region_K 15 (fun w' => w'.cell? ⟨BO, 2, none⟩ = some (.slice a' i c') ∧ w'.cell? ⟨W.heap.size, 2, none⟩ = some (.slice (some ⟨b, off, none⟩) zs.length c) ∧ w'.cell? ⟨W.heap.size, 0, none⟩ = some (.int .i64 gw) ∧ w'.cell? ⟨b, off + s, none⟩ = some (.int .i64 z)) (by kernel_rfl) ?_ (fun hH => ?_)
          · go_keep
          refine wpAnyK_take (i := 0) (v := ?_) rfl (by kernel_rfl) (fun _ _ _ h => h) hH (Or.inl ⟨by rfl, ?_⟩) ?_
          rotate_left
          · intro w hSw; (try dsimp only at hSw); go_simp; (try with_reducible rfl)
          try simp only [Act.put]
          refine wpAnyK_take (i := 1) (v := ?_) rfl (by kernel_rfl) (fun _ _ _ h => h) hH (Or.inl ⟨by rfl, ?_⟩) ?_
          rotate_left
          · intro w hSw; (try dsimp only at hSw); go_simp; (try with_reducible rfl)
          try simp only [Act.put]
          refine wpAnyK_take (i := 2) (v := ?_) rfl (by kernel_rfl) (fun _ _ _ h => h) hH (Or.inl ⟨by rfl, ?_⟩) ?_
          rotate_left
          · intro w hSw; (try dsimp only at hSw); go_simp; (try with_reducible rfl)
          try simp only [Act.put]
          refine wpAnyK_take (i := 3) (v := ?_) rfl (by kernel_rfl) (fun _ _ _ h => h) hH (Or.inl ⟨by rfl, ?_⟩) ?_
          rotate_left
          · intro w hSw; (try dsimp only at hSw); go_simp; (try with_reducible rfl)
          try simp only [Act.put]
          refine wpAnyK_take (i := 4) (v := ?_) rfl (by kernel_rfl) (fun _ _ _ h => h) hH (Or.inl ⟨by rfl, ?_⟩) ?_
          rotate_left
          · intro w hSw; (try dsimp only at hSw); go_simp; (try with_reducible rfl)
          try simp only [Act.put]
          refine wpAnyK_take (i := 5) (v := ?_) rfl (by kernel_rfl) (fun _ _ _ h => h) hH (Or.inl ⟨by rfl, ?_⟩) ?_
          rotate_left
          · intro w hSw; (try dsimp only at hSw); go_simp; (try with_reducible rfl)
          try simp only [Act.put]
          refine wpAnyK_take (i := 6) (v := ?_) rfl (by kernel_rfl) (fun _ _ _ h => h) hH (Or.inl ⟨by rfl, ?_⟩) ?_
          rotate_left
          · intro w hSw; (try dsimp only at hSw); go_simp; (try with_reducible rfl)
          try simp only [Act.put]
          refine wpAnyK_take (i := 7) (v := ?_) rfl (by kernel_rfl) (fun _ _ _ h => h) hH (Or.inl ⟨by rfl, ?_⟩) ?_
          rotate_left
          · intro w hSw; (try dsimp only at hSw); go_simp; (try with_reducible rfl)
          try simp only [Act.put]
          refine wpAnyK_take (i := 8) (v := ?_) rfl (by kernel_rfl) (fun _ _ _ h => h) hH (Or.inl ⟨by rfl, ?_⟩) ?_
          rotate_left
          · intro w hSw; (try dsimp only at hSw); go_simp; (try with_reducible rfl)
          try simp only [Act.put]
          refine wpAnyK_take (i := 9) (v := ?_) rfl (by kernel_rfl) (fun _ _ _ h => h) hH (Or.inl ⟨by rfl, ?_⟩) ?_
          rotate_left
          · intro w hSw; (try dsimp only at hSw); go_simp; (try with_reducible rfl)
          try simp only [Act.put]
          refine wpAnyK_take (i := 10) (v := ?_) rfl (by kernel_rfl) (fun _ _ _ h => h) hH (Or.inl ⟨by rfl, ?_⟩) ?_
          rotate_left
          · intro w hSw; (try dsimp only at hSw); go_simp; (try with_reducible rfl)
          try simp only [Act.put]
          refine wpAnyK_take (i := 11) (v := ?_) rfl (by kernel_rfl) (fun _ _ _ h => h) hH (Or.inl ⟨by rfl, ?_⟩) ?_
          rotate_left
          · intro w hSw; (try dsimp only at hSw); go_simp; (try with_reducible rfl)
          try simp only [Act.put]
          refine wpAnyK_step (i := 12) rfl (by kernel_rfl) (fun K hK => ?_)
          go_simp
          refine hK.out _ _ ?_ (fun hH2 => ?_)
          · go_keep
          clear hK K hH
          try simp only [Act.put]
          have hH := hH2
          clear hH2
          refine wpAnyK_step (i := 13) rfl (by kernel_rfl) (fun K hK => ?_)
          refine step_append_sl E22 (by rfl) (.tmp 69) (.tmp 80) (by rfl) (BO + 1) (by rfl) (by rfl) rfl (how.keep (B := wr.heap.size) (by repeat (first | exact Below.refl _ _ | refine Below.drew ?_ | refine below_drewN ?_ _ | (refine Below.alloc ?_ (by first | (simp; done) | omega | (simp; omega)) _) | (refine Below.setCell ?_ (by first | (simp; done) | omega | (simp; omega)) _))) (Nat.le_refl _)) (SlI.one (bytes := 8) (by first | exact (Blk.new _ _ _ (by simp)).at_ 0 rfl | exact (Blk.new _ _ _ (by simp)).drew.at_ 0 rfl) hzw (by omega)) (N := i + 1) (by rw [HL.out]; rfl) (by omega) (by omega) (by simp; omega) ?_
          intro a1 c1 w1 hown1 hg1 hb1
          have ko1 := ((ko.drewN _).alloc _).below hb1 (by omega)
          have hfo := ko1.free 2
          have hco : w1.cell? ⟨BO, 2, none⟩ = some (.slice a' i c') := ko1.at_ 2 rfl
          have HC1 := Lib.hid (bcell hb1).1
          clear hg1
          refine hK.out _ _ ?_ (fun hH2 => ?_)
          · go_split_ands; refine ⟨?_, ?_, ?_, ?_⟩ <;> (rw [HC1.out _ _ (by omega)]; assumption)
          clear hK K hH
          try simp only [Act.put]
          have hH := hH2
          clear hH2
          refine wpAnyK_take (i := 14) (v := ?_) rfl (by kernel_rfl) (fun _ _ _ h => h) hH (Or.inl ⟨by rfl, ?_⟩) ?_
          rotate_left
          · intro w hSw; (try dsimp only at hSw); go_simp; (try with_reducible rfl)
          try simp only [Act.put]
          refine wpAnyK_last rfl (by kernel_rfl) (by kernel_rfl) (fun K hK => ?_)
          go_simp
          refine hK _ _ ?_
          clear hK K hH
          try simp only [Act.put]
          go_wp2
          go_roundw
          case rel =>
            refine ⟨i + 1, by omega, by go_num, ⟨a1, c1, ?_, ?_⟩, ?_⟩
            · rw [HTK.out]; exact hown1.low (by simp) _
            · exact ko1.set 2 _
            · exact ((hbr.trans (((below_drewN (Below.refl _ _) _).alloc (by simp; omega) _).trans (hb1.mono (by omega)))).setCell (by simp) _)
          case measure => simp [intOf]; omega
        · obtain ⟨d1, d2, d3⟩ := place_bd gw gh (X + (xm : Int)) (Y + (ym : Int)) (by omega) (by omega) (by omega) (by omega)
          obtain ⟨s, hs⟩ := Int.eq_ofNat_of_zero_le (show 0 ≤ (Y + (ym : Int)) * gw + (X + (xm : Int)) by omega)
          have hsl : s < zs.length := by have := HG.out; omega
          obtain ⟨b, off, rfl, hb, hcell⟩ := HS.out.cells (by omega)
          obtain ⟨z, hz⟩ : ∃ z, z = zs.getD s 0 := ⟨_, rfl⟩
          have ez := (hBi.cell (p := ⟨b, off + s, none⟩) hb).trans (hcell s hsl)
          rw [← hz] at ez
          have hzw := HS.out.okAt s hsl
          rw [← hz] at hzw
          have hzz : z = (cutL gw gh X Y m n zs).getD i 0 := by
            rw [cutL_at _ _ _ _ _ _ _ _ hin, hz, cutIdx_min _ _ _ _ _ _ hm0, ← HXY.out.1, ← HXY.out.2, show min (Y + (ym : Int)) (gh - 1) = Y + (ym : Int) by omega, show min (X + (xm : Int)) (gw - 1) = X + (xm : Int) by omega, hs]
            rfl
          have htk := take_snoc_getD (cutL gw gh X Y m n zs) i (by rw [cutL_len]; exact hin)
          rw [← hzz] at htk
          have HTK := Lib.hid htk
          have hlen : ((cutL gw gh X Y m n zs).take i).length = i := by rw [List.length_take, cutL_len]; omega
          have HL := Lib.hid hlen
          have q1 : (0 : Int) ≤ (s : Int) := by omega
          have q2 : (s : Int) < (zs.length : Int) := by omega
          have w1' : IntKind.i64.wrap ((Y + (ym : Int)) * gw) = (Y + (ym : Int)) * gw := IntWalk.i64_in _ (by omega)
          have w2' : IntKind.i64.wrap ((Y + (ym : Int)) * gw + (X + (xm : Int))) = (s : Int) := by rw [hs]; exact IntWalk.i64_in _ (by omega)
          clear hs hz hzz htk hcell d2 d3 hlen
          go_wp2
          go_quiet (fail)
          go_wp2
          refine wp_region_K 15 (fun w' => w'.cell? ⟨BO, 2, none⟩ = some (.slice a' i c') ∧ w'.cell? ⟨W.heap.size, 2, none⟩ = some (.slice (some ⟨b, off, none⟩) zs.length c) ∧ w'.cell? ⟨W.heap.size, 0, none⟩ = some (.int .i64 gw) ∧ w'.cell? ⟨b, off + s, none⟩ = some (.int .i64 z)) (by kernel_rfl) ?_ (fun hH => ?_)
          · go_keep
          refine wpAnyK_take (i := 0) (v := ?_) rfl (by kernel_rfl) (fun _ _ _ h => h) hH (Or.inl ⟨by rfl, ?_⟩) ?_
          rotate_left
          · intro w hSw; (try dsimp only at hSw); go_simp; (try with_reducible rfl)
          try simp only [Act.put]
          refine wpAnyK_take (i := 1) (v := ?_) rfl (by kernel_rfl) (fun _ _ _ h => h) hH (Or.inl ⟨by rfl, ?_⟩) ?_
          rotate_left
          · intro w hSw; (try dsimp only at hSw); go_simp; (try with_reducible rfl)
          try simp only [Act.put]
          refine wpAnyK_take (i := 2) (v := ?_) rfl (by kernel_rfl) (fun _ _ _ h => h) hH (Or.inl ⟨by rfl, ?_⟩) ?_
          rotate_left
          · intro w hSw; (try dsimp only at hSw); go_simp; (try with_reducible rfl)
          try simp only [Act.put]
          refine wpAnyK_take (i := 3) (v := ?_) rfl (by kernel_rfl) (fun _ _ _ h => h) hH (Or.inl ⟨by rfl, ?_⟩) ?_
          rotate_left
          · intro w hSw; (try dsimp only at hSw); go_simp; (try with_reducible rfl)
          try simp only [Act.put]
          refine wpAnyK_take (i := 4) (v := ?_) rfl (by kernel_rfl) (fun _ _ _ h => h) hH (Or.inl ⟨by rfl, ?_⟩) ?_
          rotate_left
          · intro w hSw; (try dsimp only at hSw); go_simp; (try with_reducible rfl)
          try simp only [Act.put]
          refine wpAnyK_take (i := 5) (v := ?_) rfl (by kernel_rfl) (fun _ _ _ h => h) hH (Or.inl ⟨by rfl, ?_⟩) ?_
          rotate_left
          · intro w hSw; (try dsimp only at hSw); go_simp; (try with_reducible rfl)
          try simp only [Act.put]
          refine wpAnyK_take (i := 6) (v := ?_) rfl (by kernel_rfl) (fun _ _ _ h => h) hH (Or.inl ⟨by rfl, ?_⟩) ?_
          rotate_left
          · intro w hSw; (try dsimp only at hSw); go_simp; (try with_reducible rfl)
          try simp only [Act.put]
          refine wpAnyK_take (i := 7) (v := ?_) rfl (by kernel_rfl) (fun _ _ _ h => h) hH (Or.inl ⟨by rfl, ?_⟩) ?_
          rotate_left
          · intro w hSw; (try dsimp only at hSw); go_simp; (try with_reducible rfl)
          try simp only [Act.put]
          refine wpAnyK_take (i := 8) (v := ?_) rfl (by kernel_rfl) (fun _ _ _ h => h) hH (Or.inl ⟨by rfl, ?_⟩) ?_
          rotate_left
          · intro w hSw; (try dsimp only at hSw); go_simp; (try with_reducible rfl)
          try simp only [Act.put]
          refine wpAnyK_take (i := 9) (v := ?_) rfl (by kernel_rfl) (fun _ _ _ h => h) hH (Or.inl ⟨by rfl, ?_⟩) ?_
          rotate_left
          · intro w hSw; (try dsimp only at hSw); go_simp; (try with_reducible rfl)
          try simp only [Act.put]
          refine wpAnyK_take (i := 10) (v := ?_) rfl (by kernel_rfl) (fun _ _ _ h => h) hH (Or.inl ⟨by rfl, ?_⟩) ?_
          rotate_left
          · intro w hSw; (try dsimp only at hSw); go_simp; (try with_reducible rfl)
          try simp only [Act.put]
          refine wpAnyK_take (i := 11) (v := ?_) rfl (by kernel_rfl) (fun _ _ _ h => h) hH (Or.inl ⟨by rfl, ?_⟩) ?_
          rotate_left
          · intro w hSw; (try dsimp only at hSw); go_simp; (try with_reducible rfl)
          try simp only [Act.put]
          refine wpAnyK_step (i := 12) rfl (by kernel_rfl) (fun K hK => ?_)
          go_simp
          refine hK.out _ _ ?_ (fun hH2 => ?_)
          · go_keep
          clear hK K hH
          try simp only [Act.put]
          have hH := hH2
          clear hH2
          refine wpAnyK_step (i := 13) rfl (by kernel_rfl) (fun K hK => ?_)
          refine step_append_sl E22 (by rfl) (.tmp 69) (.tmp 80) (by rfl) (BO + 1) (by rfl) (by rfl) rfl (how.keep (B := wr.heap.size) (by repeat (first | exact Below.refl _ _ | refine Below.drew ?_ | refine below_drewN ?_ _ | (refine Below.alloc ?_ (by first | (simp; done) | omega | (simp; omega)) _) | (refine Below.setCell ?_ (by first | (simp; done) | omega | (simp; omega)) _))) (Nat.le_refl _)) (SlI.one (bytes := 8) (by first | exact (Blk.new _ _ _ (by simp)).at_ 0 rfl | exact (Blk.new _ _ _ (by simp)).drew.at_ 0 rfl) hzw (by omega)) (N := i + 1) (by rw [HL.out]; rfl) (by omega) (by omega) (by simp; omega) ?_
          intro a1 c1 w1 hown1 hg1 hb1
          have ko1 := ((ko.drewN _).alloc _).below hb1 (by omega)
          have hfo := ko1.free 2
          have hco : w1.cell? ⟨BO, 2, none⟩ = some (.slice a' i c') := ko1.at_ 2 rfl
          have HC1 := Lib.hid (bcell hb1).1
          clear hg1
          refine hK.out _ _ ?_ (fun hH2 => ?_)
          · go_split_ands; refine ⟨?_, ?_, ?_, ?_⟩ <;> (rw [HC1.out _ _ (by omega)]; assumption)
          clear hK K hH
          try simp only [Act.put]
          have hH := hH2
          clear hH2
          refine wpAnyK_take (i := 14) (v := ?_) rfl (by kernel_rfl) (fun _ _ _ h => h) hH (Or.inl ⟨by rfl, ?_⟩) ?_
          rotate_left
          · intro w hSw; (try dsimp only at hSw); go_simp; (try with_reducible rfl)
          try simp only [Act.put]
          refine wpAnyK_last rfl (by kernel_rfl) (by kernel_rfl) (fun K hK => ?_)
          go_simp
          refine hK _ _ ?_
          clear hK K hH
          try simp only [Act.put]
          go_wp2
          go_roundw
          case rel =>
            refine ⟨i + 1, by omega, by go_num, ⟨a1, c1, ?_, ?_⟩, ?_⟩
            · rw [HTK.out]; exact hown1.low (by simp) _
            · exact ko1.set 2 _
            · exact ((hbr.trans (((below_drewN (Below.refl _ _) _).alloc (by simp; omega) _).trans (hb1.mono (by omega)))).setCell (by simp) _)
          case measure => simp [intOf]; omega
    · obtain rfl : i = n := by omega
      have HO := Lib.hid how
      have hBi : Below W.heap.size W wr := hB2.trans (hbr.mono (by omega))
      have hge : (m : Int) * (q : Int) ≤ (i : Int) := by omega
      have HBI := Lib.hid hBi
      have ko_0 : wr.cell? ⟨BO, 0, none⟩ = some (.int .i64 (m : Int)) := ko.at_ 0 rfl
      have ko_1 : wr.cell? ⟨BO, 1, none⟩ = some (.int .i64 (q : Int)) := ko.at_ 1 rfl
      have ko_2 : wr.cell? ⟨BO, 2, none⟩ = some (.slice a' i c') := ko.at_ 2 rfl
      have k2_f0 : wr.frozen? ⟨W.heap.size + 1 + 1, 0, none⟩ = false := k2.free 0
      have k2_f1 : wr.frozen? ⟨W.heap.size + 1 + 1, 1, none⟩ = false := k2.free 1
      have k2_f2 : wr.frozen? ⟨W.heap.size + 1 + 1, 2, none⟩ = false := k2.free 2
      clear how k0 k1 k2 K0 K1 K2 KO hn hB2 hBi
      go_wp2
      refine bodyPost_ret (v := .tuple #[.agg #[.int .i64 (m : Int), .int .i64 (q : Int), .slice a' i c'], .int .i64 0]) (by simp [results, Try.results12, go_sem, k2_0, k2_1, k2_2]) rfl ⟨_, rfl, ?_, ?_⟩
      · have h1 := HO.out
        rw [List.take_of_length_le (by rw [cutL_len]; exact Nat.le_refl _)] at h1
        have h2 := h1.low (p := ⟨W.heap.size + 1 + 1, 0, none⟩) (by simp; omega) (.int .i64 (m : Int))
        have h3 := h2.low (p := ⟨W.heap.size + 1 + 1, 1, none⟩) (by simp; omega) (.int .i64 (q : Int))
        have h4 := h3.low (p := ⟨W.heap.size + 1 + 1, 2, none⟩) (by simp; omega) (.slice a' i c')
        exact h4.more (by omega)
      · exact ((HBI.out.setCell (by simp; omega) _).setCell (by simp; omega) _).setCell (by simp; omega) _

set_option maxHeartbeats 1000000 in
theorem rcut_no (W : World) (gw gh X Y rw rh : Int) (zs : List Int) (a : Option Addr) (c : Nat) (hl : zs.length ≤ 9223372036854775807) (hb : (fitsB rw rh && hasB gw gh zs.length X Y) = false) :
    Calls Try.prog 12 #[.agg #[.int .i64 gw, .int .i64 gh, .slice a zs.length c], .agg #[.int .i64 X, .int .i64 Y, .int .i64 rw, .int .i64 rh]] W fun e w' =>
      e = .returned (.tuple #[.agg #[.int .i64 0, .int .i64 0, .slice none 0 0], .int .i64 1]) ∧ Below W.heap.size W w' := by
  cases hf : fitsB rw rh with
  | false =>
    clear hb
    go_enter Try.func12, Try.ntmps12
    go_wp2_with (first | (go_at_call 27; refine (can_any _ _ _).mono ?_; rintro e w' ⟨rfl, rfl⟩))
    refine bodyPost_ret (v := .tuple #[.agg #[.int .i64 0, .int .i64 0, .slice none 0 0], .int .i64 1]) (by simp [results, Try.results12, go_sem]) rfl ⟨rfl, ?_⟩
    repeat (first | exact Below.refl _ _ | refine Below.drew ?_ | refine below_drewN ?_ _ | (refine Below.alloc ?_ (by first | (simp; done) | omega | (simp; omega)) _) | (refine Below.setCell ?_ (by first | (simp; done) | omega | (simp; omega)) _))
  | true =>
    have hh : hasB gw gh zs.length X Y = false := by simpa [hf] using hb
    have HH := Lib.hid hh
    clear hb hh
    go_enter Try.func12, Try.ntmps12
    go_wp2_with (first | (go_at_call 27; refine (can_any _ _ _).mono ?_; rintro e w' ⟨rfl, rfl⟩) | (go_at_call 23; refine (has_any _ _ _ _ _ _ _ _ _ (by omega) HH.out).mono ?_; rintro e w2 ⟨rfl, hb2⟩; obtain ⟨hc2, hf2⟩ := bcell hb2; have hz2 : W.heap.size + 1 + 1 < w2.heap.size := by (have := hb2.size; simp at this; omega)))
    refine bodyPost_ret (v := .tuple #[.agg #[.int .i64 0, .int .i64 0, .slice none 0 0], .int .i64 1]) (by simp [results, Try.results12, go_sem, hc2]) rfl ⟨rfl, ?_⟩
    repeat (first | exact Below.refl _ _ | refine Below.drew ?_ | refine below_drewN ?_ _ | (refine Below.alloc ?_ (by first | (simp; done) | omega | (simp; omega)) _) | (refine Below.setCell ?_ (by first | (simp; done) | omega | (simp; omega)) _) | (refine Below.trans ?_ (hb2.mono (by first | (simp; done) | omega | (simp; omega)))))
end Go.Proofs.Ytbckibmjjkgmnaa

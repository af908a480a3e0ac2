/- The contract of the law's 'of': two grids of the same cells, each a copy of its own. No condition. -/
import Derived.Test.YtbckibmjjkgmnaaGridRcut
import Derived.Deep.RegionHeld3
namespace Go.Proofs.Ytbckibmjjkgmnaa
open Go.RowKit Go.Shp Go.Deep
attribute [local go_sem ↓] Go.wp_at_zero Go.wp_at_succ

theorem own_cut {w : World} {base : Nat} {e : TypeId} {k : IntKind} {zs : List Int} {a : Option Addr} {m n cap : Nat} (h : OwI w base e k zs (.slice a m cap)) (hm : zs.length = m) (hn : n ≤ m) : OwI w base e k (zs.take n) (.slice a n cap) := by
  subst hm
  have hl : (zs.take n).length = n := by rw [List.length_take]; omega
  refine ⟨⟨by rw [List.length_map, hl]; omega, ?_⟩, fun z hz => h.ok z (List.mem_of_mem_take hz)⟩
  rcases h.own.2 with ⟨h1, h2⟩ | ⟨g, cap', cur, h1, h2, h3, h4, h5, h6, h7⟩
  · simp only [Value.slice.injEq] at h1
    obtain ⟨rfl, h1, rfl⟩ := h1
    have : n = 0 := by omega
    subst this
    exact .inl ⟨rfl, hl⟩
  · simp only [Value.slice.injEq, true_and] at h1
    obtain ⟨rfl, rfl⟩ := h1
    refine .inr ⟨g, cap, cur, by rw [hl], h2, h3, by omega, h5, h6, ?_⟩
    rw [hl, List.map_take, ← h7, List.take_take]
    congr 1
    omega
def OwL (w : World) (B : Nat) (l : List Int) (k : Nat) (v : Value) : Prop := OwI w B 3 .i64 l v ∧ l.length = k
def lenV : Value → Nat | .slice _ n _ => n | _ => 0
/-- what 'of' gives: two grids of one size and of the same cells; they are few where it says so -/
def OfPost (W : World) (e : Ending) (w' : World) : Prop :=
  ∃ (gw gh : Int) (l : List Int) (a1 a2 : Option Addr) (c1 c2 : Nat) (ok : Bool), e = .returned (.tuple #[.agg #[.int .i64 gw, .int .i64 gh, .slice a1 l.length c1], .agg #[.int .i64 gw, .int .i64 gh, .slice a2 l.length c2], .bool ok]) ∧
    SlI w' .i64 8 l a1 c1 ∧ SlI w' .i64 8 l a2 c2 ∧ (ok = true → l.length ≤ 3600) ∧ (-9223372036854775808 ≤ gw ∧ gw ≤ 9223372036854775807) ∧ (-9223372036854775808 ≤ gh ∧ gh ≤ 9223372036854775807) ∧ Below W.heap.size W w'
set_option maxHeartbeats 4000000 in
set_option maxRecDepth 100000 in
theorem of_any (W : World) (sw sh : Int) (zs : List Int) (a : Option Addr) (c : Nat) (fill : Bool) (hs : SlI W .i64 8 zs a c) (hw : -9223372036854775808 ≤ sw ∧ sw ≤ 9223372036854775807) (hh : -9223372036854775808 ≤ sh ∧ sh ≤ 9223372036854775807) :
    Calls Try.prog 9 #[.agg #[.int .i64 sw, .int .i64 sh, .slice a zs.length c, .bool fill]] W fun e w' => OfPost W e w' := by
  have hl := hs.len63
  have hr := hs.reach
  have HS := Lib.hid hs
  clear hs
  cases fill with
  | false =>
    go_enter Try.func9, Try.ntmps9
    go_wp2_with (at_builtin; refine halt_ ?_)
    refine go_on ?_
    refine append_sl (zs := []) E22 rfl (.tmp 6) (.tmp 8) rfl (W.heap.size + 3) rfl rfl rfl (OwI.lit _ _ _ _ [] (by simp) (by simp) (by decide) (by simp) rfl rfl) ((((HS.out.alloc _).alloc _).alloc _).alloc _) (N := zs.length) (by simp) (by omega) (by omega) (by simp) ?_
    intro a0 c0 w1 ho hg1 hb1
    clear hg1
    simp only [List.nil_append] at ho
    have hz1 : W.heap.size + 3 ≤ w1.heap.size := by have := hb1.size; simp at this; omega
    have hB1 : Below W.heap.size W w1 := by repeat (first | exact Below.refl _ _ | refine Below.drew ?_ | refine below_drewN ?_ _ | (refine Below.alloc ?_ (by first | (simp; done) | omega | (simp; omega)) _) | (refine Below.setCell ?_ (by first | (simp; done) | omega | (simp; omega)) _) | (refine Below.trans ?_ (hb1.mono (by first | (simp; done) | omega | (simp; omega)))))
    have K0 : Blk w1 (W.heap.size) 24 #[.int .i64 sw, .int .i64 sh, .slice a zs.length c, .bool false] := ((((Blk.new _ _ _ rfl).alloc _).alloc _).alloc _).below hb1 (by first | omega | (simp; done) | (simp; omega))
    have K1 : Blk w1 (W.heap.size + 1) 28 #[.int .i64 0, .int .i64 0, .slice none 0 0] := (((Blk.new _ _ _ (by simp)).alloc _).alloc _).below hb1 (by first | omega | (simp; done) | (simp; omega))
    have K2 : Blk w1 (W.heap.size + 1 + 1) 30 #[.int .i64 0, .int .i64 0, .slice none 0 0] := ((Blk.new _ _ _ (by simp)).alloc _).below hb1 (by first | omega | (simp; done) | (simp; omega))
    have K0_0 : w1.cell? ⟨W.heap.size, 0, none⟩ = some (.int .i64 sw) := K0.at_ 0 rfl
    have K0_1 : w1.cell? ⟨W.heap.size, 1, none⟩ = some (.int .i64 sh) := K0.at_ 1 rfl
    have K0_2 : w1.cell? ⟨W.heap.size, 2, none⟩ = some (.slice a zs.length c) := K0.at_ 2 rfl
    have K0_3 : w1.cell? ⟨W.heap.size, 3, none⟩ = some (.bool false) := K0.at_ 3 rfl
    have K1_0 : w1.cell? ⟨W.heap.size + 1, 0, none⟩ = some (.int .i64 0) := K1.at_ 0 rfl
    have K1_1 : w1.cell? ⟨W.heap.size + 1, 1, none⟩ = some (.int .i64 0) := K1.at_ 1 rfl
    have K1_2 : w1.cell? ⟨W.heap.size + 1, 2, none⟩ = some (.slice none 0 0) := K1.at_ 2 rfl
    have K2_0 : w1.cell? ⟨W.heap.size + 1 + 1, 0, none⟩ = some (.int .i64 0) := K2.at_ 0 rfl
    have K2_1 : w1.cell? ⟨W.heap.size + 1 + 1, 1, none⟩ = some (.int .i64 0) := K2.at_ 1 rfl
    have K2_2 : w1.cell? ⟨W.heap.size + 1 + 1, 2, none⟩ = some (.slice none 0 0) := K2.at_ 2 rfl
    have K1_f0 : w1.frozen? ⟨W.heap.size + 1, 0, none⟩ = false := K1.free 0
    have K1_f1 : w1.frozen? ⟨W.heap.size + 1, 1, none⟩ = false := K1.free 1
    have K1_f2 : w1.frozen? ⟨W.heap.size + 1, 2, none⟩ = false := K1.free 2
    have K2_f0 : w1.frozen? ⟨W.heap.size + 1 + 1, 0, none⟩ = false := K2.free 0
    have K2_f1 : w1.frozen? ⟨W.heap.size + 1 + 1, 1, none⟩ = false := K2.free 1
    have K2_f2 : w1.frozen? ⟨W.heap.size + 1 + 1, 2, none⟩ = false := K2.free 2
    clear hb1
    go_wp2
    have HO := Lib.hid ho
    have HSL : SlI w1 .i64 8 zs a0 c0 := ho.slN (by first | rfl | omega | (simp; omega)) (by omega)
    have HSLn : zs.length = zs.length := by first | rfl | omega | (simp; omega)
    have HSL1 := Lib.hid HSL
    have HN1 := Lib.hid HSLn
    clear HSL HSLn ho
    go_region_held3 (fun w' => w'.cell? ⟨W.heap.size, 0, none⟩ = some (.int .i64 sw) ∧ w'.cell? ⟨W.heap.size, 1, none⟩ = some (.int .i64 sh)) (first | (go_split_ands; refine ⟨?_, ?_⟩ <;> (rw [HC5.out _ _ (by omega)]; go_keep; done)) | (go_split_ands; refine ⟨?_, ?_⟩ <;> ((repeat rw [World.cell?_setCell_other _ _ _ _ (by simp)]); rw [HC5.out _ _ (by omega)]; go_keep; done)) | go_keep) ((refine step_append_sl (zs := []) E22 (by rfl) (.tmp 64) (.tmp 65) (by rfl) w1.heap.size (by rfl) (by rfl) HN1.out.symm (OwI.lit _ _ _ _ [] rfl (Nat.le_refl _) (by decide) (by simp) rfl rfl).drew (HSL1.out.alloc _).drew (N := zs.length) ((Nat.zero_add _).trans HN1.out) (by omega) (by omega) (by simp) ?_; intro a5 c5 w5 ho5 hg5 hb5; clear hg5; have HC5 := Lib.hid (bcell hb5).1; have k1 := ((((K1).alloc _).drew)).below hb5 (by omega); have k2 := ((((K2).alloc _).drew)).below hb5 (by omega); have k1_0 : w5.cell? ⟨W.heap.size + 1, 0, none⟩ = some (.int .i64 0) := k1.at_ 0 rfl; have k1_1 : w5.cell? ⟨W.heap.size + 1, 1, none⟩ = some (.int .i64 0) := k1.at_ 1 rfl; have k1_2 : w5.cell? ⟨W.heap.size + 1, 2, none⟩ = some (.slice none 0 0) := k1.at_ 2 rfl; have k2_0 : w5.cell? ⟨W.heap.size + 1 + 1, 0, none⟩ = some (.int .i64 0) := k2.at_ 0 rfl; have k2_1 : w5.cell? ⟨W.heap.size + 1 + 1, 1, none⟩ = some (.int .i64 0) := k2.at_ 1 rfl; have k2_2 : w5.cell? ⟨W.heap.size + 1 + 1, 2, none⟩ = some (.slice none 0 0) := k2.at_ 2 rfl; have k1_f0 : w5.frozen? ⟨W.heap.size + 1, 0, none⟩ = false := k1.free 0; have k1_f1 : w5.frozen? ⟨W.heap.size + 1, 1, none⟩ = false := k1.free 1; have k1_f2 : w5.frozen? ⟨W.heap.size + 1, 2, none⟩ = false := k1.free 2; have k2_f0 : w5.frozen? ⟨W.heap.size + 1 + 1, 0, none⟩ = false := k2.free 0; have k2_f1 : w5.frozen? ⟨W.heap.size + 1 + 1, 1, none⟩ = false := k2.free 1; have k2_f2 : w5.frozen? ⟨W.heap.size + 1 + 1, 2, none⟩ = false := k2.free 2))
    go_wp2
    have hlen : zs.length = zs.length := by first | rfl | exact HN1.out
    have hO5 := ho5
    simp only [List.nil_append] at hO5
    have hO0 := HO.out.keep (((Below.refl _ _).alloc (Nat.le_refl _) _).drew.trans hb5) (Nat.le_refl _)
    have T0 := (((((((hO0).low (p := ⟨W.heap.size + 1, 0, none⟩) (by first | omega | (simp; done) | (simp; omega)) (.int .i64 sw)).low (p := ⟨W.heap.size + 1, 1, none⟩) (by first | omega | (simp; done) | (simp; omega)) (.int .i64 sh)).low (p := ⟨W.heap.size + 1, 2, none⟩) (by first | omega | (simp; done) | (simp; omega)) (.slice a0 zs.length c0)).low (p := ⟨W.heap.size + 1 + 1, 0, none⟩) (by first | omega | (simp; done) | (simp; omega)) (.int .i64 sw)).low (p := ⟨W.heap.size + 1 + 1, 1, none⟩) (by first | omega | (simp; done) | (simp; omega)) (.int .i64 sh)).low (p := ⟨W.heap.size + 1 + 1, 2, none⟩) (by first | omega | (simp; done) | (simp; omega)) (.slice a5 zs.length c5))
    have T5 := (((((((hO5).low (p := ⟨W.heap.size + 1, 0, none⟩) (by first | omega | (simp; done) | (simp; omega)) (.int .i64 sw)).low (p := ⟨W.heap.size + 1, 1, none⟩) (by first | omega | (simp; done) | (simp; omega)) (.int .i64 sh)).low (p := ⟨W.heap.size + 1, 2, none⟩) (by first | omega | (simp; done) | (simp; omega)) (.slice a0 zs.length c0)).low (p := ⟨W.heap.size + 1 + 1, 0, none⟩) (by first | omega | (simp; done) | (simp; omega)) (.int .i64 sw)).low (p := ⟨W.heap.size + 1 + 1, 1, none⟩) (by first | omega | (simp; done) | (simp; omega)) (.int .i64 sh)).low (p := ⟨W.heap.size + 1 + 1, 2, none⟩) (by first | omega | (simp; done) | (simp; omega)) (.slice a5 zs.length c5))
    refine bodyPost_ret (v := .tuple #[.agg #[.int .i64 sw, .int .i64 sh, .slice a0 zs.length c0], .agg #[.int .i64 sw, .int .i64 sh, .slice a5 zs.length c5], .bool (decide ((zs.length : Int) ≤ 3600))]) (by simp [results, Try.results9, go_sem, k1_0, k1_1, k1_2, k2_0, k2_1, k2_2]) rfl ⟨sw, sh, zs, a0, a5, c0, c5, _, (by first | rfl | rw [hlen]), T0.slN hlen (by omega), T5.slN hlen (by omega), fun h => (by have h' := of_decide_eq_true h; omega), hw, hh, ?_⟩
    have hb6 : Below W.heap.size W w5 := (hB1).trans ((((Below.refl _ _).alloc (Nat.le_refl _) _).drew.trans hb5).mono (by omega))
    exact (((((hb6.setCell (by simp) _).setCell (by simp) _).setCell (by simp) _).setCell (by simp; omega) _).setCell (by simp; omega) _).setCell (by simp; omega) _
  | true =>
    have nilpost : ∀ w' : World, Below W.heap.size W w' → OfPost W (.returned (.tuple #[.agg #[.int .i64 0, .int .i64 0, .slice none 0 0], .agg #[.int .i64 0, .int .i64 0, .slice none 0 0], .bool false])) w' := fun w' hb =>
      ⟨0, 0, [], none, none, 0, 0, false, rfl, SlI.nil _ _ _, SlI.nil _ _ _, (fun h => by cases h), by omega, by omega, hb⟩
    have NP := Lib.hid nilpost
    clear nilpost
    by_cases t1 : sw < 0
    · go_enter Try.func9, Try.ntmps9
      go_wp2_with (at_builtin; refine halt_ ?_)
      refine go_on ?_
      refine append_sl (zs := []) E22 rfl (.tmp 6) (.tmp 8) rfl (W.heap.size + 3) rfl rfl rfl (OwI.lit _ _ _ _ [] (by simp) (by simp) (by decide) (by simp) rfl rfl) ((((HS.out.alloc _).alloc _).alloc _).alloc _) (N := zs.length) (by simp) (by omega) (by omega) (by simp) ?_
      intro a0 c0 w1 ho hg1 hb1
      clear hg1
      simp only [List.nil_append] at ho
      have hz1 : W.heap.size + 3 ≤ w1.heap.size := by have := hb1.size; simp at this; omega
      have hB1 : Below W.heap.size W w1 := by repeat (first | exact Below.refl _ _ | refine Below.drew ?_ | refine below_drewN ?_ _ | (refine Below.alloc ?_ (by first | (simp; done) | omega | (simp; omega)) _) | (refine Below.setCell ?_ (by first | (simp; done) | omega | (simp; omega)) _) | (refine Below.trans ?_ (hb1.mono (by first | (simp; done) | omega | (simp; omega)))))
      have K0 : Blk w1 (W.heap.size) 24 #[.int .i64 sw, .int .i64 sh, .slice a zs.length c, .bool true] := ((((Blk.new _ _ _ rfl).alloc _).alloc _).alloc _).below hb1 (by first | omega | (simp; done) | (simp; omega))
      have K1 : Blk w1 (W.heap.size + 1) 28 #[.int .i64 0, .int .i64 0, .slice none 0 0] := (((Blk.new _ _ _ (by simp)).alloc _).alloc _).below hb1 (by first | omega | (simp; done) | (simp; omega))
      have K2 : Blk w1 (W.heap.size + 1 + 1) 30 #[.int .i64 0, .int .i64 0, .slice none 0 0] := ((Blk.new _ _ _ (by simp)).alloc _).below hb1 (by first | omega | (simp; done) | (simp; omega))
      have K0_0 : w1.cell? ⟨W.heap.size, 0, none⟩ = some (.int .i64 sw) := K0.at_ 0 rfl
      have K0_1 : w1.cell? ⟨W.heap.size, 1, none⟩ = some (.int .i64 sh) := K0.at_ 1 rfl
      have K0_2 : w1.cell? ⟨W.heap.size, 2, none⟩ = some (.slice a zs.length c) := K0.at_ 2 rfl
      have K0_3 : w1.cell? ⟨W.heap.size, 3, none⟩ = some (.bool true) := K0.at_ 3 rfl
      have K1_0 : w1.cell? ⟨W.heap.size + 1, 0, none⟩ = some (.int .i64 0) := K1.at_ 0 rfl
      have K1_1 : w1.cell? ⟨W.heap.size + 1, 1, none⟩ = some (.int .i64 0) := K1.at_ 1 rfl
      have K1_2 : w1.cell? ⟨W.heap.size + 1, 2, none⟩ = some (.slice none 0 0) := K1.at_ 2 rfl
      have K2_0 : w1.cell? ⟨W.heap.size + 1 + 1, 0, none⟩ = some (.int .i64 0) := K2.at_ 0 rfl
      have K2_1 : w1.cell? ⟨W.heap.size + 1 + 1, 1, none⟩ = some (.int .i64 0) := K2.at_ 1 rfl
      have K2_2 : w1.cell? ⟨W.heap.size + 1 + 1, 2, none⟩ = some (.slice none 0 0) := K2.at_ 2 rfl
      have K1_f0 : w1.frozen? ⟨W.heap.size + 1, 0, none⟩ = false := K1.free 0
      have K1_f1 : w1.frozen? ⟨W.heap.size + 1, 1, none⟩ = false := K1.free 1
      have K1_f2 : w1.frozen? ⟨W.heap.size + 1, 2, none⟩ = false := K1.free 2
      have K2_f0 : w1.frozen? ⟨W.heap.size + 1 + 1, 0, none⟩ = false := K2.free 0
      have K2_f1 : w1.frozen? ⟨W.heap.size + 1 + 1, 1, none⟩ = false := K2.free 1
      have K2_f2 : w1.frozen? ⟨W.heap.size + 1 + 1, 2, none⟩ = false := K2.free 2
      clear hb1
      go_wp2
      refine bodyPost_ret (v := .tuple #[.agg #[.int .i64 0, .int .i64 0, .slice none 0 0], .agg #[.int .i64 0, .int .i64 0, .slice none 0 0], .bool false]) (by simp [results, Try.results9, go_sem, K1_0, K1_1, K1_2, K2_0, K2_1, K2_2]) rfl (NP.out _ ?_)
      exact (((((hB1.setCell (by simp) _).setCell (by simp) _).setCell (by simp) _).setCell (by simp; omega) _).setCell (by simp; omega) _).setCell (by simp; omega) _
    · by_cases t2 : sh < 0
      · go_enter Try.func9, Try.ntmps9
        go_wp2_with (at_builtin; refine halt_ ?_)
        refine go_on ?_
        refine append_sl (zs := []) E22 rfl (.tmp 6) (.tmp 8) rfl (W.heap.size + 3) rfl rfl rfl (OwI.lit _ _ _ _ [] (by simp) (by simp) (by decide) (by simp) rfl rfl) ((((HS.out.alloc _).alloc _).alloc _).alloc _) (N := zs.length) (by simp) (by omega) (by omega) (by simp) ?_
        intro a0 c0 w1 ho hg1 hb1
        clear hg1
        simp only [List.nil_append] at ho
        have hz1 : W.heap.size + 3 ≤ w1.heap.size := by have := hb1.size; simp at this; omega
        have hB1 : Below W.heap.size W w1 := by repeat (first | exact Below.refl _ _ | refine Below.drew ?_ | refine below_drewN ?_ _ | (refine Below.alloc ?_ (by first | (simp; done) | omega | (simp; omega)) _) | (refine Below.setCell ?_ (by first | (simp; done) | omega | (simp; omega)) _) | (refine Below.trans ?_ (hb1.mono (by first | (simp; done) | omega | (simp; omega)))))
        have K0 : Blk w1 (W.heap.size) 24 #[.int .i64 sw, .int .i64 sh, .slice a zs.length c, .bool true] := ((((Blk.new _ _ _ rfl).alloc _).alloc _).alloc _).below hb1 (by first | omega | (simp; done) | (simp; omega))
        have K1 : Blk w1 (W.heap.size + 1) 28 #[.int .i64 0, .int .i64 0, .slice none 0 0] := (((Blk.new _ _ _ (by simp)).alloc _).alloc _).below hb1 (by first | omega | (simp; done) | (simp; omega))
        have K2 : Blk w1 (W.heap.size + 1 + 1) 30 #[.int .i64 0, .int .i64 0, .slice none 0 0] := ((Blk.new _ _ _ (by simp)).alloc _).below hb1 (by first | omega | (simp; done) | (simp; omega))
        have K0_0 : w1.cell? ⟨W.heap.size, 0, none⟩ = some (.int .i64 sw) := K0.at_ 0 rfl
        have K0_1 : w1.cell? ⟨W.heap.size, 1, none⟩ = some (.int .i64 sh) := K0.at_ 1 rfl
        have K0_2 : w1.cell? ⟨W.heap.size, 2, none⟩ = some (.slice a zs.length c) := K0.at_ 2 rfl
        have K0_3 : w1.cell? ⟨W.heap.size, 3, none⟩ = some (.bool true) := K0.at_ 3 rfl
        have K1_0 : w1.cell? ⟨W.heap.size + 1, 0, none⟩ = some (.int .i64 0) := K1.at_ 0 rfl
        have K1_1 : w1.cell? ⟨W.heap.size + 1, 1, none⟩ = some (.int .i64 0) := K1.at_ 1 rfl
        have K1_2 : w1.cell? ⟨W.heap.size + 1, 2, none⟩ = some (.slice none 0 0) := K1.at_ 2 rfl
        have K2_0 : w1.cell? ⟨W.heap.size + 1 + 1, 0, none⟩ = some (.int .i64 0) := K2.at_ 0 rfl
        have K2_1 : w1.cell? ⟨W.heap.size + 1 + 1, 1, none⟩ = some (.int .i64 0) := K2.at_ 1 rfl
        have K2_2 : w1.cell? ⟨W.heap.size + 1 + 1, 2, none⟩ = some (.slice none 0 0) := K2.at_ 2 rfl
        have K1_f0 : w1.frozen? ⟨W.heap.size + 1, 0, none⟩ = false := K1.free 0
        have K1_f1 : w1.frozen? ⟨W.heap.size + 1, 1, none⟩ = false := K1.free 1
        have K1_f2 : w1.frozen? ⟨W.heap.size + 1, 2, none⟩ = false := K1.free 2
        have K2_f0 : w1.frozen? ⟨W.heap.size + 1 + 1, 0, none⟩ = false := K2.free 0
        have K2_f1 : w1.frozen? ⟨W.heap.size + 1 + 1, 1, none⟩ = false := K2.free 1
        have K2_f2 : w1.frozen? ⟨W.heap.size + 1 + 1, 2, none⟩ = false := K2.free 2
        clear hb1
        go_wp2
        refine bodyPost_ret (v := .tuple #[.agg #[.int .i64 0, .int .i64 0, .slice none 0 0], .agg #[.int .i64 0, .int .i64 0, .slice none 0 0], .bool false]) (by simp [results, Try.results9, go_sem, K1_0, K1_1, K1_2, K2_0, K2_1, K2_2]) rfl (NP.out _ ?_)
        exact (((((hB1.setCell (by simp) _).setCell (by simp) _).setCell (by simp) _).setCell (by simp; omega) _).setCell (by simp; omega) _).setCell (by simp; omega) _
      · by_cases t3 : 60 < sw
        · go_enter Try.func9, Try.ntmps9
          go_wp2_with (at_builtin; refine halt_ ?_)
          refine go_on ?_
          refine append_sl (zs := []) E22 rfl (.tmp 6) (.tmp 8) rfl (W.heap.size + 3) rfl rfl rfl (OwI.lit _ _ _ _ [] (by simp) (by simp) (by decide) (by simp) rfl rfl) ((((HS.out.alloc _).alloc _).alloc _).alloc _) (N := zs.length) (by simp) (by omega) (by omega) (by simp) ?_
          intro a0 c0 w1 ho hg1 hb1
          clear hg1
          simp only [List.nil_append] at ho
          have hz1 : W.heap.size + 3 ≤ w1.heap.size := by have := hb1.size; simp at this; omega
          have hB1 : Below W.heap.size W w1 := by repeat (first | exact Below.refl _ _ | refine Below.drew ?_ | refine below_drewN ?_ _ | (refine Below.alloc ?_ (by first | (simp; done) | omega | (simp; omega)) _) | (refine Below.setCell ?_ (by first | (simp; done) | omega | (simp; omega)) _) | (refine Below.trans ?_ (hb1.mono (by first | (simp; done) | omega | (simp; omega)))))
          have K0 : Blk w1 (W.heap.size) 24 #[.int .i64 sw, .int .i64 sh, .slice a zs.length c, .bool true] := ((((Blk.new _ _ _ rfl).alloc _).alloc _).alloc _).below hb1 (by first | omega | (simp; done) | (simp; omega))
          have K1 : Blk w1 (W.heap.size + 1) 28 #[.int .i64 0, .int .i64 0, .slice none 0 0] := (((Blk.new _ _ _ (by simp)).alloc _).alloc _).below hb1 (by first | omega | (simp; done) | (simp; omega))
          have K2 : Blk w1 (W.heap.size + 1 + 1) 30 #[.int .i64 0, .int .i64 0, .slice none 0 0] := ((Blk.new _ _ _ (by simp)).alloc _).below hb1 (by first | omega | (simp; done) | (simp; omega))
          have K0_0 : w1.cell? ⟨W.heap.size, 0, none⟩ = some (.int .i64 sw) := K0.at_ 0 rfl
          have K0_1 : w1.cell? ⟨W.heap.size, 1, none⟩ = some (.int .i64 sh) := K0.at_ 1 rfl
          have K0_2 : w1.cell? ⟨W.heap.size, 2, none⟩ = some (.slice a zs.length c) := K0.at_ 2 rfl
          have K0_3 : w1.cell? ⟨W.heap.size, 3, none⟩ = some (.bool true) := K0.at_ 3 rfl
          have K1_0 : w1.cell? ⟨W.heap.size + 1, 0, none⟩ = some (.int .i64 0) := K1.at_ 0 rfl
          have K1_1 : w1.cell? ⟨W.heap.size + 1, 1, none⟩ = some (.int .i64 0) := K1.at_ 1 rfl
          have K1_2 : w1.cell? ⟨W.heap.size + 1, 2, none⟩ = some (.slice none 0 0) := K1.at_ 2 rfl
          have K2_0 : w1.cell? ⟨W.heap.size + 1 + 1, 0, none⟩ = some (.int .i64 0) := K2.at_ 0 rfl
          have K2_1 : w1.cell? ⟨W.heap.size + 1 + 1, 1, none⟩ = some (.int .i64 0) := K2.at_ 1 rfl
          have K2_2 : w1.cell? ⟨W.heap.size + 1 + 1, 2, none⟩ = some (.slice none 0 0) := K2.at_ 2 rfl
          have K1_f0 : w1.frozen? ⟨W.heap.size + 1, 0, none⟩ = false := K1.free 0
          have K1_f1 : w1.frozen? ⟨W.heap.size + 1, 1, none⟩ = false := K1.free 1
          have K1_f2 : w1.frozen? ⟨W.heap.size + 1, 2, none⟩ = false := K1.free 2
          have K2_f0 : w1.frozen? ⟨W.heap.size + 1 + 1, 0, none⟩ = false := K2.free 0
          have K2_f1 : w1.frozen? ⟨W.heap.size + 1 + 1, 1, none⟩ = false := K2.free 1
          have K2_f2 : w1.frozen? ⟨W.heap.size + 1 + 1, 2, none⟩ = false := K2.free 2
          clear hb1
          go_wp2
          refine bodyPost_ret (v := .tuple #[.agg #[.int .i64 0, .int .i64 0, .slice none 0 0], .agg #[.int .i64 0, .int .i64 0, .slice none 0 0], .bool false]) (by simp [results, Try.results9, go_sem, K1_0, K1_1, K1_2, K2_0, K2_1, K2_2]) rfl (NP.out _ ?_)
          exact (((((hB1.setCell (by simp) _).setCell (by simp) _).setCell (by simp) _).setCell (by simp; omega) _).setCell (by simp; omega) _).setCell (by simp; omega) _
        · by_cases t4 : 60 < sh
          · go_enter Try.func9, Try.ntmps9
            go_wp2_with (at_builtin; refine halt_ ?_)
            refine go_on ?_
            refine append_sl (zs := []) E22 rfl (.tmp 6) (.tmp 8) rfl (W.heap.size + 3) rfl rfl rfl (OwI.lit _ _ _ _ [] (by simp) (by simp) (by decide) (by simp) rfl rfl) ((((HS.out.alloc _).alloc _).alloc _).alloc _) (N := zs.length) (by simp) (by omega) (by omega) (by simp) ?_
            intro a0 c0 w1 ho hg1 hb1
            clear hg1
            simp only [List.nil_append] at ho
            have hz1 : W.heap.size + 3 ≤ w1.heap.size := by have := hb1.size; simp at this; omega
            have hB1 : Below W.heap.size W w1 := by repeat (first | exact Below.refl _ _ | refine Below.drew ?_ | refine below_drewN ?_ _ | (refine Below.alloc ?_ (by first | (simp; done) | omega | (simp; omega)) _) | (refine Below.setCell ?_ (by first | (simp; done) | omega | (simp; omega)) _) | (refine Below.trans ?_ (hb1.mono (by first | (simp; done) | omega | (simp; omega)))))
            have K0 : Blk w1 (W.heap.size) 24 #[.int .i64 sw, .int .i64 sh, .slice a zs.length c, .bool true] := ((((Blk.new _ _ _ rfl).alloc _).alloc _).alloc _).below hb1 (by first | omega | (simp; done) | (simp; omega))
            have K1 : Blk w1 (W.heap.size + 1) 28 #[.int .i64 0, .int .i64 0, .slice none 0 0] := (((Blk.new _ _ _ (by simp)).alloc _).alloc _).below hb1 (by first | omega | (simp; done) | (simp; omega))
            have K2 : Blk w1 (W.heap.size + 1 + 1) 30 #[.int .i64 0, .int .i64 0, .slice none 0 0] := ((Blk.new _ _ _ (by simp)).alloc _).below hb1 (by first | omega | (simp; done) | (simp; omega))
            have K0_0 : w1.cell? ⟨W.heap.size, 0, none⟩ = some (.int .i64 sw) := K0.at_ 0 rfl
            have K0_1 : w1.cell? ⟨W.heap.size, 1, none⟩ = some (.int .i64 sh) := K0.at_ 1 rfl
            have K0_2 : w1.cell? ⟨W.heap.size, 2, none⟩ = some (.slice a zs.length c) := K0.at_ 2 rfl
            have K0_3 : w1.cell? ⟨W.heap.size, 3, none⟩ = some (.bool true) := K0.at_ 3 rfl
            have K1_0 : w1.cell? ⟨W.heap.size + 1, 0, none⟩ = some (.int .i64 0) := K1.at_ 0 rfl
            have K1_1 : w1.cell? ⟨W.heap.size + 1, 1, none⟩ = some (.int .i64 0) := K1.at_ 1 rfl
            have K1_2 : w1.cell? ⟨W.heap.size + 1, 2, none⟩ = some (.slice none 0 0) := K1.at_ 2 rfl
            have K2_0 : w1.cell? ⟨W.heap.size + 1 + 1, 0, none⟩ = some (.int .i64 0) := K2.at_ 0 rfl
            have K2_1 : w1.cell? ⟨W.heap.size + 1 + 1, 1, none⟩ = some (.int .i64 0) := K2.at_ 1 rfl
            have K2_2 : w1.cell? ⟨W.heap.size + 1 + 1, 2, none⟩ = some (.slice none 0 0) := K2.at_ 2 rfl
            have K1_f0 : w1.frozen? ⟨W.heap.size + 1, 0, none⟩ = false := K1.free 0
            have K1_f1 : w1.frozen? ⟨W.heap.size + 1, 1, none⟩ = false := K1.free 1
            have K1_f2 : w1.frozen? ⟨W.heap.size + 1, 2, none⟩ = false := K1.free 2
            have K2_f0 : w1.frozen? ⟨W.heap.size + 1 + 1, 0, none⟩ = false := K2.free 0
            have K2_f1 : w1.frozen? ⟨W.heap.size + 1 + 1, 1, none⟩ = false := K2.free 1
            have K2_f2 : w1.frozen? ⟨W.heap.size + 1 + 1, 2, none⟩ = false := K2.free 2
            clear hb1
            go_wp2
            refine bodyPost_ret (v := .tuple #[.agg #[.int .i64 0, .int .i64 0, .slice none 0 0], .agg #[.int .i64 0, .int .i64 0, .slice none 0 0], .bool false]) (by simp [results, Try.results9, go_sem, K1_0, K1_1, K1_2, K2_0, K2_1, K2_2]) rfl (NP.out _ ?_)
            exact (((((hB1.setCell (by simp) _).setCell (by simp) _).setCell (by simp) _).setCell (by simp; omega) _).setCell (by simp; omega) _).setCell (by simp; omega) _
          · clear NP
            obtain ⟨p, hp⟩ := Int.eq_ofNat_of_zero_le (show 0 ≤ sw by omega)
            obtain ⟨q, hq⟩ := Int.eq_ofNat_of_zero_le (show 0 ≤ sh by omega)
            subst hp hq
            obtain ⟨n, hn⟩ : ∃ n : Nat, (p : Int) * (q : Int) = (n : Int) := ⟨p * q, by simp⟩
            have hn2 : n ≤ 3600 := by
              have h1 : (p : Int) * (q : Int) ≤ 60 * 60 := Int.mul_le_mul (by omega) (by omega) (by omega) (by omega)
              omega
            go_enter Try.func9, Try.ntmps9
            go_wp2_with (at_builtin; refine halt_ ?_)
            refine go_on ?_
            refine append_sl (zs := []) E22 rfl (.tmp 6) (.tmp 8) rfl (W.heap.size + 3) rfl rfl rfl (OwI.lit _ _ _ _ [] (by simp) (by simp) (by decide) (by simp) rfl rfl) ((((HS.out.alloc _).alloc _).alloc _).alloc _) (N := zs.length) (by simp) (by omega) (by omega) (by simp) ?_
            intro a0 c0 w1 ho hg1 hb1
            clear hg1
            simp only [List.nil_append] at ho
            have hz1 : W.heap.size + 3 ≤ w1.heap.size := by have := hb1.size; simp at this; omega
            have hB1 : Below W.heap.size W w1 := by repeat (first | exact Below.refl _ _ | refine Below.drew ?_ | refine below_drewN ?_ _ | (refine Below.alloc ?_ (by first | (simp; done) | omega | (simp; omega)) _) | (refine Below.setCell ?_ (by first | (simp; done) | omega | (simp; omega)) _) | (refine Below.trans ?_ (hb1.mono (by first | (simp; done) | omega | (simp; omega)))))
            have K0 : Blk w1 (W.heap.size) 24 #[.int .i64 (p : Int), .int .i64 (q : Int), .slice a zs.length c, .bool true] := ((((Blk.new _ _ _ rfl).alloc _).alloc _).alloc _).below hb1 (by first | omega | (simp; done) | (simp; omega))
            have K1 : Blk w1 (W.heap.size + 1) 28 #[.int .i64 0, .int .i64 0, .slice none 0 0] := (((Blk.new _ _ _ (by simp)).alloc _).alloc _).below hb1 (by first | omega | (simp; done) | (simp; omega))
            have K2 : Blk w1 (W.heap.size + 1 + 1) 30 #[.int .i64 0, .int .i64 0, .slice none 0 0] := ((Blk.new _ _ _ (by simp)).alloc _).below hb1 (by first | omega | (simp; done) | (simp; omega))
            have K0_0 : w1.cell? ⟨W.heap.size, 0, none⟩ = some (.int .i64 (p : Int)) := K0.at_ 0 rfl
            have K0_1 : w1.cell? ⟨W.heap.size, 1, none⟩ = some (.int .i64 (q : Int)) := K0.at_ 1 rfl
            have K0_2 : w1.cell? ⟨W.heap.size, 2, none⟩ = some (.slice a zs.length c) := K0.at_ 2 rfl
            have K0_3 : w1.cell? ⟨W.heap.size, 3, none⟩ = some (.bool true) := K0.at_ 3 rfl
            have K1_0 : w1.cell? ⟨W.heap.size + 1, 0, none⟩ = some (.int .i64 0) := K1.at_ 0 rfl
            have K1_1 : w1.cell? ⟨W.heap.size + 1, 1, none⟩ = some (.int .i64 0) := K1.at_ 1 rfl
            have K1_2 : w1.cell? ⟨W.heap.size + 1, 2, none⟩ = some (.slice none 0 0) := K1.at_ 2 rfl
            have K2_0 : w1.cell? ⟨W.heap.size + 1 + 1, 0, none⟩ = some (.int .i64 0) := K2.at_ 0 rfl
            have K2_1 : w1.cell? ⟨W.heap.size + 1 + 1, 1, none⟩ = some (.int .i64 0) := K2.at_ 1 rfl
            have K2_2 : w1.cell? ⟨W.heap.size + 1 + 1, 2, none⟩ = some (.slice none 0 0) := K2.at_ 2 rfl
            have K1_f0 : w1.frozen? ⟨W.heap.size + 1, 0, none⟩ = false := K1.free 0
            have K1_f1 : w1.frozen? ⟨W.heap.size + 1, 1, none⟩ = false := K1.free 1
            have K1_f2 : w1.frozen? ⟨W.heap.size + 1, 2, none⟩ = false := K1.free 2
            have K2_f0 : w1.frozen? ⟨W.heap.size + 1 + 1, 0, none⟩ = false := K2.free 0
            have K2_f1 : w1.frozen? ⟨W.heap.size + 1 + 1, 1, none⟩ = false := K2.free 1
            have K2_f2 : w1.frozen? ⟨W.heap.size + 1 + 1, 2, none⟩ = false := K2.free 2
            clear hb1
            go_wp2
            have hl3 := ho.own
            clear K1_0 K1_1 K1_2 K2_0 K2_1 K2_2 K0_2 K0_3 K1_f0 K1_f1 K1_f2 K2_f0 K2_f1 K2_f2 hl3
            go_loopw [5] (fun lv wr => ∃ (k : Nat) (cur : List Int) (a' : Option Addr) (c' : Nat), lv = .slice a' k c' ∧ OwL wr (W.heap.size + 3) cur k (.slice a' k c') ∧ k ≤ 17592186044416 ∧ Below (W.heap.size + 3) w1 wr) (fun lv _ => n - lenV lv)
            case atStart => exact ⟨zs.length, zs, a0, c0, rfl, ⟨ho, rfl⟩, by omega, Below.refl _ _⟩
            case round =>
              obtain ⟨k, cur, a', c', rfl, HOL, hkb, hbw⟩ := hrel
              have k0 := K0.below hbw (by omega)
              have k1 := K1.below hbw (by omega)
              have k2 := K2.below hbw (by omega)
              have hws : W.heap.size + 3 ≤ wr.heap.size := by have := hbw.size; omega
              have hBw : Below W.heap.size W wr := hB1.trans (hbw.mono (by omega))
              have k0_0 : wr.cell? ⟨W.heap.size, 0, none⟩ = some (.int .i64 (p : Int)) := k0.at_ 0 rfl
              have k0_1 : wr.cell? ⟨W.heap.size, 1, none⟩ = some (.int .i64 (q : Int)) := k0.at_ 1 rfl
              have k0_2 : wr.cell? ⟨W.heap.size, 2, none⟩ = some (.slice a zs.length c) := k0.at_ 2 rfl
              have k0_3 : wr.cell? ⟨W.heap.size, 3, none⟩ = some (.bool true) := k0.at_ 3 rfl
              have k1_0 : wr.cell? ⟨W.heap.size + 1, 0, none⟩ = some (.int .i64 0) := k1.at_ 0 rfl
              have k1_1 : wr.cell? ⟨W.heap.size + 1, 1, none⟩ = some (.int .i64 0) := k1.at_ 1 rfl
              have k1_2 : wr.cell? ⟨W.heap.size + 1, 2, none⟩ = some (.slice none 0 0) := k1.at_ 2 rfl
              have k2_0 : wr.cell? ⟨W.heap.size + 1 + 1, 0, none⟩ = some (.int .i64 0) := k2.at_ 0 rfl
              have k2_1 : wr.cell? ⟨W.heap.size + 1 + 1, 1, none⟩ = some (.int .i64 0) := k2.at_ 1 rfl
              have k2_2 : wr.cell? ⟨W.heap.size + 1 + 1, 2, none⟩ = some (.slice none 0 0) := k2.at_ 2 rfl
              by_cases hk : k < n
              · have hk' : (k : Int) < (n : Int) := by omega
                go_wp2_with (at_builtin; refine halt_ ?_)
                refine go_on ?_
                refine push_int E22 rfl (.tmp 40) (.tmp 45) rfl (W.heap.size + 3) rfl rfl rfl HOL.1 (WalkArith.wf_i64 (by omega)) (N := k + 1) (by rw [HOL.2]) (by omega) (by omega) (by omega) ?_
                intro a2 c2 w2 ho2 hg2 hb2
                clear hg2
                have HO2 : OwL w2 (W.heap.size + 3) (cur ++ [(k : Int) * 7 % 31]) (k + 1) (.slice a2 (k + 1) c2) := ⟨ho2, by simp [HOL.2]⟩
                clear ho2 HOL
                go_wp2
                go_roundw
                case rel => exact ⟨k + 1, _, a2, c2, rfl, HO2, by omega, hbw.trans (hb2.mono (by omega))⟩
                case measure => simp [lenV]; omega
              · have hkc : k ≤ c' := by obtain ⟨a9, c9, h9, h10, _⟩ := HOL.1.form; injection h9 with _ h11 h12; omega
                have hnk : n ≤ k := by omega
                have hoT := own_cut HOL.1 HOL.2 hnk
                have hlT : (cur.take n).length = n := by rw [List.length_take, HOL.2]; omega
                have hk2 : (n : Int) ≤ (c' : Int) := by omega
                have hk3 : (n : Int) ≤ (k : Int) := by omega
                clear HOL
                go_wp2
                have HO := Lib.hid hoT
                have HSL : SlI wr .i64 8 (cur.take n) a' c' := hoT.slN (by first | rfl | omega | (simp; omega)) (by omega)
                have HSLn : (cur.take n).length = n := by first | rfl | omega | (simp; omega)
                have HSL1 := Lib.hid HSL
                have HN1 := Lib.hid HSLn
                clear HSL HSLn hoT
                go_region_held3 (fun w' => w'.cell? ⟨W.heap.size, 0, none⟩ = some (.int .i64 (p : Int)) ∧ w'.cell? ⟨W.heap.size, 1, none⟩ = some (.int .i64 (q : Int))) (first | (go_split_ands; refine ⟨?_, ?_⟩ <;> (rw [HC5.out _ _ (by omega)]; go_keep; done)) | (go_split_ands; refine ⟨?_, ?_⟩ <;> ((repeat rw [World.cell?_setCell_other _ _ _ _ (by simp)]); rw [HC5.out _ _ (by omega)]; go_keep; done)) | go_keep) ((refine step_append_sl (zs := []) E22 (by rfl) (.tmp 64) (.tmp 65) (by rfl) wr.heap.size (by rfl) (by rfl) HN1.out.symm (OwI.lit _ _ _ _ [] rfl (Nat.le_refl _) (by decide) (by simp) rfl rfl).drew (HSL1.out.alloc _).drew (N := n) ((Nat.zero_add _).trans HN1.out) (by omega) (by omega) (by simp) ?_; intro a5 c5 w5 ho5 hg5 hb5; clear hg5; have HC5 := Lib.hid (bcell hb5).1; have k1 := ((((k1).alloc _).drew)).below hb5 (by omega); have k2 := ((((k2).alloc _).drew)).below hb5 (by omega); have k1_0 : w5.cell? ⟨W.heap.size + 1, 0, none⟩ = some (.int .i64 0) := k1.at_ 0 rfl; have k1_1 : w5.cell? ⟨W.heap.size + 1, 1, none⟩ = some (.int .i64 0) := k1.at_ 1 rfl; have k1_2 : w5.cell? ⟨W.heap.size + 1, 2, none⟩ = some (.slice none 0 0) := k1.at_ 2 rfl; have k2_0 : w5.cell? ⟨W.heap.size + 1 + 1, 0, none⟩ = some (.int .i64 0) := k2.at_ 0 rfl; have k2_1 : w5.cell? ⟨W.heap.size + 1 + 1, 1, none⟩ = some (.int .i64 0) := k2.at_ 1 rfl; have k2_2 : w5.cell? ⟨W.heap.size + 1 + 1, 2, none⟩ = some (.slice none 0 0) := k2.at_ 2 rfl; have k1_f0 : w5.frozen? ⟨W.heap.size + 1, 0, none⟩ = false := k1.free 0; have k1_f1 : w5.frozen? ⟨W.heap.size + 1, 1, none⟩ = false := k1.free 1; have k1_f2 : w5.frozen? ⟨W.heap.size + 1, 2, none⟩ = false := k1.free 2; have k2_f0 : w5.frozen? ⟨W.heap.size + 1 + 1, 0, none⟩ = false := k2.free 0; have k2_f1 : w5.frozen? ⟨W.heap.size + 1 + 1, 1, none⟩ = false := k2.free 1; have k2_f2 : w5.frozen? ⟨W.heap.size + 1 + 1, 2, none⟩ = false := k2.free 2))
                go_wp2
                have hlen : (cur.take n).length = n := by first | rfl | exact HN1.out
                have hO5 := ho5
                simp only [List.nil_append] at hO5
                have hO0 := HO.out.keep (((Below.refl _ _).alloc (Nat.le_refl _) _).drew.trans hb5) (Nat.le_refl _)
                have T0 := (((((((hO0).low (p := ⟨W.heap.size + 1, 0, none⟩) (by first | omega | (simp; done) | (simp; omega)) (.int .i64 (p : Int))).low (p := ⟨W.heap.size + 1, 1, none⟩) (by first | omega | (simp; done) | (simp; omega)) (.int .i64 (q : Int))).low (p := ⟨W.heap.size + 1, 2, none⟩) (by first | omega | (simp; done) | (simp; omega)) (.slice a' n c')).low (p := ⟨W.heap.size + 1 + 1, 0, none⟩) (by first | omega | (simp; done) | (simp; omega)) (.int .i64 (p : Int))).low (p := ⟨W.heap.size + 1 + 1, 1, none⟩) (by first | omega | (simp; done) | (simp; omega)) (.int .i64 (q : Int))).low (p := ⟨W.heap.size + 1 + 1, 2, none⟩) (by first | omega | (simp; done) | (simp; omega)) (.slice a5 n c5))
                have T5 := (((((((hO5).low (p := ⟨W.heap.size + 1, 0, none⟩) (by first | omega | (simp; done) | (simp; omega)) (.int .i64 (p : Int))).low (p := ⟨W.heap.size + 1, 1, none⟩) (by first | omega | (simp; done) | (simp; omega)) (.int .i64 (q : Int))).low (p := ⟨W.heap.size + 1, 2, none⟩) (by first | omega | (simp; done) | (simp; omega)) (.slice a' n c')).low (p := ⟨W.heap.size + 1 + 1, 0, none⟩) (by first | omega | (simp; done) | (simp; omega)) (.int .i64 (p : Int))).low (p := ⟨W.heap.size + 1 + 1, 1, none⟩) (by first | omega | (simp; done) | (simp; omega)) (.int .i64 (q : Int))).low (p := ⟨W.heap.size + 1 + 1, 2, none⟩) (by first | omega | (simp; done) | (simp; omega)) (.slice a5 n c5))
                refine bodyPost_ret (v := .tuple #[.agg #[.int .i64 (p : Int), .int .i64 (q : Int), .slice a' n c'], .agg #[.int .i64 (p : Int), .int .i64 (q : Int), .slice a5 n c5], .bool (decide ((n : Int) ≤ 3600))]) (by simp [results, Try.results9, go_sem, k1_0, k1_1, k1_2, k2_0, k2_1, k2_2]) rfl ⟨(p : Int), (q : Int), (cur.take n), a', a5, c', c5, _, (by first | rfl | rw [hlen]), T0.slN hlen (by omega), T5.slN hlen (by omega), fun h => (by have h' := of_decide_eq_true h; omega), hw, hh, ?_⟩
                have hb6 : Below W.heap.size W w5 := (hBw).trans ((((Below.refl _ _).alloc (Nat.le_refl _) _).drew.trans hb5).mono (by omega))
                exact (((((hb6.setCell (by simp) _).setCell (by simp) _).setCell (by simp) _).setCell (by simp; omega) _).setCell (by simp; omega) _).setCell (by simp; omega) _
end Go.Proofs.Ytbckibmjjkgmnaa

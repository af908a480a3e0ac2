/- An entry's field: what is read of it, by the program and the reference. No condition but what each says. -/
import Derived.Test.YtpjnpmdmcllilaaWFSame
set_option linter.unusedSimpArgs false
set_option linter.unusedVariables false
set_option maxRecDepth 8000
set_option maxHeartbeats 4000000
namespace Go.Proofs.Ytpjnpmdmcllilaa
open Go.Eng Go.RowKit
def valsF (k : Int) (t : List Int) (big : Bool) (n : Nat) : List Int := if frP k then tab (elf t big) n else tab (el1 (szI k).toNat t big) n
theorem valsF_len (k : Int) (t : List Int) (big : Bool) (n : Nat) : (valsF k t big n).length = n := by
  unfold valsF
  split <;> rw [tab_len]
theorem read_ok {k : Int} (h : knownP k) (b : List Int) (n : Nat) (big : Bool) (hn : n ≤ 65536) (hl : b.length ≤ 1000000) (hB : Bytes b) (hs : szI k * n ≤ b.length) :
    Giv Try.prog 38 [.lst 1 (li .u8 b), .c (.int .i64 k), .c (.int .i64 n), .c (.bool big)] (retV [.lst 1 (li .u64 (valsF k b big n)), .c (.int .i64 0)]) ∧
    Giv Try.prog 33 [.c (.string (strOfNums b)), .c (.int .i64 k), .c (.int .i64 n), .c (.bool big)] (retV [.lst 1 (li .u64 (valsF k b big n)), .c (.int .i64 0)]) := by
  have hst := size_t h
  unfold valsF
  by_cases hf : frP k
  · have hz : szI k = 8 := by rcases hf with rfl | rfl <;> decide
    rw [hz] at hs hst
    rw [if_pos hf]
    exact ⟨read_f k hst (parts_2 hf) b n big (by omega) (by omega) hB (by omega), rread_f k hz (decide_eq_true hf) b n big (by omega) (by omega) hB (by omega)⟩
  · have hp := parts_1 h hf
    rw [if_neg hf]
    rcases sz_pos h with hz | hz | hz | hz
    · rw [hz] at hs hst hp ⊢
      exact ⟨read_1 k hst hp b n big (by omega) (by omega) hB (by omega), rread_1 k hz (decide_eq_false hf) b n big (by omega) (by omega) hB (by omega)⟩
    · rw [hz] at hs hst hp ⊢
      exact ⟨read_2 k hst hp b n big (by omega) (by omega) hB (by omega), rread_2 k hz (decide_eq_false hf) b n big (by omega) (by omega) hB (by omega)⟩
    · rw [hz] at hs hst hp ⊢
      exact ⟨read_4 k hst hp b n big (by omega) (by omega) hB (by omega), rread_4 k hz (decide_eq_false hf) b n big (by omega) (by omega) hB (by omega)⟩
    · rw [hz] at hs hst hp ⊢
      exact ⟨read_8 k hst hp b n big (by omega) (by omega) hB (by omega), rread_8 k hz (decide_eq_false hf) b n big (by omega) (by omega) hB (by omega)⟩
abbrev Fld := Int × Int × List Int
def fldD (f : Fld) : D := .agg [.c (.int .u16 f.1), .c (.int .i64 f.2.1), .lst 1 (li .u64 f.2.2)]
def fld0 : D := .agg [.c (.int .u16 0), .c (.int .i64 0), .lst 1 []]
def entD : Option Fld × Int → List D
  | (some f, e) => [fldD f, .c (.bool true), .c (.int .i64 e)]
  | (none, e) => [fld0, .c (.bool false), .c (.int .i64 e)]
def wd (large : Bool) : Nat := if large = true then 8 else 4
/-- the field of an entry w of the bytes b -/
def entS (b w : List Int) (big large : Bool) : Option Fld × Int :=
  if ¬ knownP (gk w 2 2 big) ∨ (16 ≤ gk w 2 2 big ∧ large = false) then (none, 0)
  else if gk w 4 (wd large) big > 65536 then (none, 8)
  else if szI (gk w 2 2 big) * gk w 4 (wd large) big > wd large then
    if gk w (4 + wd large) (wd large) big + szI (gk w 2 2 big) * gk w 4 (wd large) big > b.length then (none, 2)
    else (some (gk w 0 2 big, gk w 2 2 big, valsF (gk w 2 2 big) ((b.drop (gk w (4 + wd large) (wd large) big).toNat).take (szI (gk w 2 2 big) * gk w 4 (wd large) big).toNat) big (gk w 4 (wd large) big).toNat), 0)
  else (some (gk w 0 2 big, gk w 2 2 big, valsF (gk w 2 2 big) (w.drop (4 + wd large)) big (gk w 4 (wd large) big).toNat), 0)
theorem gk_2 {w : List Int} (hB : Bytes w) (p : Nat) (big : Bool) : 0 ≤ gk w p 2 big ∧ gk w p 2 big < 65536 := by
  have := gvK_b ((hB.drop p).take 2) big 2
  rw [show (256 : Int) ^ 2 = 65536 from rfl] at this
  exact this
theorem sized_wd (large : Bool) : sizedP (wd large : Int) := by
  cases large
  · exact .inr (.inr (.inl rfl))
  · exact .inr (.inr (.inr rfl))
theorem add_o (a b : Int) (ha : 0 ≤ a ∧ a < 18446744073709551616) (hb : 0 ≤ b ∧ b < 18446744073709551616) (h : 18446744073709551616 ≤ a + b) : Giv Try.prog 35 [.c (.int .u64 a), .c (.int .u64 b)] (retV [.c (.int .u64 0), .c (.int .i64 7)]) := by
  refine Giv.of mixed c35 (Nat.le_of_ble_eq_true rfl) ?_
  have e2 : (a + b) / 18446744073709551616 = 1 := by omega
  simp -dsimp -implicitDefEqProofs (disch := first | omega | (simp only [List.length_append, List.length_cons, List.length_nil, List.length_take, List.length_drop]; omega)) only [a35, ↓aPre, aPost, oneW, allOne, retV, retVA, simprocAttr]
  refine call_giv (a64_giv a b ha.1 hb.1) ?_
  simp -dsimp -implicitDefEqProofs (disch := first | omega | (simp only [List.length_append, List.length_cons, List.length_nil, List.length_take, List.length_drop]; omega)) only [e2, ↓aPre, aPost, oneW, allOne, retV, retVA, simprocAttr]
  exact post_eq rfl
theorem win_any_f (b : List Int) (at_ n : Nat) (hl : b.length ≤ 1000000) (h : b.length < at_ + n) (ha : at_ < 18446744073709551616) (hn : n < 18446744073709551616) : Giv Try.prog 27 [.lst 1 (li .u8 b), .c (.int .u64 at_), .c (.int .u64 n)] (retV [.lst 1 [], .c (.int .i64 2)]) := by
  by_cases hs : at_ + n < 18446744073709551616
  · exact win_f b at_ n hl h hs
  · refine Giv.of mixed c27 (Nat.le_of_ble_eq_true rfl) ?_
    simp -dsimp -implicitDefEqProofs (disch := first | omega | (simp only [List.length_append, List.length_cons, List.length_nil, List.length_take, List.length_drop]; omega)) only [a27, ↓aPre, aPost, oneW, allOne, retV, retVA, simprocAttr]
    refine call_giv (add_o at_ n (by omega) (by omega) (by omega)) ?_
    simp -dsimp -implicitDefEqProofs (disch := first | omega | (simp only [List.length_append, List.length_cons, List.length_nil, List.length_take, List.length_drop]; omega)) only [↓aPre, aPost, oneW, allOne, retV, retVA, simprocAttr]
    exact post_le (by repeat (first | exact leD.nil | exact leE.refl _ | exact leE.nil _ | refine leD.cons ?_ ?_ | refine leE.agg ?_))
theorem field_giv (b w : List Int) (big large : Bool) (first : Int) (hl : b.length ≤ 100000) (hB : Bytes b) (hwl : w.length = 4 + 2 * wd large) (hwB : Bytes w) :
    Giv Try.prog 28 [.lst 1 (li .u8 b), .lst 1 (li .u8 w), hD big large first, .c (.int .i64 (wd large))] (retV (entD (entS b w big large))) := by
  have hwd : wd large = 4 ∨ wd large = 8 := by cases large <;> decide
  have g0 := get_k w 0 2 big (.inr (.inl rfl)) (by omega) hwB (by omega)
  have g2 := get_k w 2 2 big (.inr (.inl rfl)) (by omega) hwB (by omega)
  have g4 := get_k w 4 (wd large) big (sized_wd large) (by omega) hwB (by omega)
  have gw := get_k w (4 + wd large) (wd large) big (sized_wd large) (by omega) hwB (by omega)
  have b0 := gk_2 hwB 0 big
  have b2 := gk_2 hwB 2 big
  have b4 := gk_b hwB 4 (wd large) big (by omega)
  have bw := gk_b hwB (4 + wd large) (wd large) big (by omega)
  unfold entS
  obtain ⟨t, ht⟩ : ∃ t, t = gk w 0 2 big := ⟨_, rfl⟩
  obtain ⟨k, hk⟩ : ∃ k, k = gk w 2 2 big := ⟨_, rfl⟩
  obtain ⟨c, hc⟩ : ∃ c, c = gk w 4 (wd large) big := ⟨_, rfl⟩
  obtain ⟨a, ha⟩ : ∃ a, a = gk w (4 + wd large) (wd large) big := ⟨_, rfl⟩
  rw [← ht] at g0 b0
  rw [← hk] at g2 b2
  rw [← hc] at g4 b4
  rw [← ha] at gw bw
  rw [← ht, ← hk, ← hc, ← ha]
  by_cases hkn : knownP k
  rotate_left
  · rw [if_pos (.inl hkn)]
    refine Giv.of mixed c28 (Nat.le_of_ble_eq_true rfl) ?_
    simp -dsimp -implicitDefEqProofs (disch := first | omega | (simp only [List.length_append, List.length_cons, List.length_nil, List.length_take, List.length_drop]; omega)) only [a28, hD, entD, fld0, ↓aPre, aPost, oneW, allOne, retV, retVA, simprocAttr]
    refine call_giv g0 ?_
    simp -dsimp -implicitDefEqProofs (disch := first | omega | (simp only [List.length_append, List.length_cons, List.length_nil, List.length_take, List.length_drop]; omega)) only [↓aPre, aPost, oneW, allOne, retV, retVA, simprocAttr]
    refine call_giv g2 ?_
    simp -dsimp -implicitDefEqProofs (disch := first | omega | (simp only [List.length_append, List.length_cons, List.length_nil, List.length_take, List.length_drop]; omega)) only [↓aPre, aPost, oneW, allOne, retV, retVA, simprocAttr]
    refine call_giv g4 ?_
    simp -dsimp -implicitDefEqProofs (disch := first | omega | (simp only [List.length_append, List.length_cons, List.length_nil, List.length_take, List.length_drop]; omega)) only [↓aPre, aPost, oneW, allOne, retV, retVA, simprocAttr]
    refine call_giv (size_f hkn) ?_
    simp -dsimp -implicitDefEqProofs (disch := first | omega | (simp only [List.length_append, List.length_cons, List.length_nil, List.length_take, List.length_drop]; omega)) only [↓aPre, aPost, oneW, allOne, retV, retVA, simprocAttr]
    exact post_le (by repeat (first | exact leD.nil | exact leE.refl _ | exact leE.nil _ | refine leD.cons ?_ ?_ | refine leE.agg ?_))
  have hsz := size_t hkn
  have hbg := big_giv k
  by_cases hlg : 16 ≤ k ∧ large = false
  · rw [if_pos (.inr hlg)]
    obtain ⟨h16, rfl⟩ := hlg
    have hd : decide (16 ≤ k ∧ k ≤ 18) = true := decide_eq_true ⟨h16, by unfold knownP at hkn; omega⟩
    rw [hd] at hbg
    refine Giv.of mixed c28 (Nat.le_of_ble_eq_true rfl) ?_
    simp -dsimp -implicitDefEqProofs (disch := first | omega | (simp only [List.length_append, List.length_cons, List.length_nil, List.length_take, List.length_drop]; omega)) only [a28, hD, entD, fld0, ↓aPre, aPost, oneW, allOne, retV, retVA, simprocAttr]
    refine call_giv g0 ?_
    simp -dsimp -implicitDefEqProofs (disch := first | omega | (simp only [List.length_append, List.length_cons, List.length_nil, List.length_take, List.length_drop]; omega)) only [↓aPre, aPost, oneW, allOne, retV, retVA, simprocAttr]
    refine call_giv g2 ?_
    simp -dsimp -implicitDefEqProofs (disch := first | omega | (simp only [List.length_append, List.length_cons, List.length_nil, List.length_take, List.length_drop]; omega)) only [↓aPre, aPost, oneW, allOne, retV, retVA, simprocAttr]
    refine call_giv g4 ?_
    simp -dsimp -implicitDefEqProofs (disch := first | omega | (simp only [List.length_append, List.length_cons, List.length_nil, List.length_take, List.length_drop]; omega)) only [↓aPre, aPost, oneW, allOne, retV, retVA, simprocAttr]
    refine call_giv hsz ?_
    simp -dsimp -implicitDefEqProofs (disch := first | omega | (simp only [List.length_append, List.length_cons, List.length_nil, List.length_take, List.length_drop]; omega)) only [↓aPre, aPost, oneW, allOne, retV, retVA, simprocAttr]
    refine call_giv hbg ?_
    simp -dsimp -implicitDefEqProofs (disch := first | omega | (simp only [List.length_append, List.length_cons, List.length_nil, List.length_take, List.length_drop]; omega)) only [↓aPre, aPost, oneW, allOne, retV, retVA, simprocAttr]
    exact post_le (by repeat (first | exact leD.nil | exact leE.refl _ | exact leE.nil _ | refine leD.cons ?_ ?_ | refine leE.agg ?_))
  rw [if_neg (by rintro (h | h); exact h hkn; exact hlg h)]
  obtain ⟨bg, hbge⟩ : ∃ bg, bg = decide (16 ≤ k ∧ k ≤ 18) := ⟨_, rfl⟩
  rw [← hbge] at hbg
  have hcase : bg = false ∨ (bg = true ∧ large = true) := by
    by_cases h16 : 16 ≤ k
    · cases large
      · exact absurd ⟨h16, rfl⟩ hlg
      · cases bg
        · exact .inl rfl
        · exact .inr ⟨rfl, rfl⟩
    · exact .inl (by rw [hbge]; exact decide_eq_false (by omega))
  clear hbge hlg
  have hsp := sz_pos hkn
  have e4 : ((4 : Int) + (wd large : Int)).toNat = 4 + wd large := by omega
  have e6 : ((4 : Int) + ((2 * wd large : Nat) : Int)).toNat = 4 + 2 * wd large := by omega
  by_cases hcl : c > 65536
  · rw [if_pos hcl]
    refine Giv.of mixed c28 (Nat.le_of_ble_eq_true rfl) ?_
    rcases hcase with rfl | ⟨rfl, rfl⟩
    all_goals
      simp -dsimp -implicitDefEqProofs (disch := first | omega | (simp only [List.length_append, List.length_cons, List.length_nil, List.length_take, List.length_drop]; omega)) only [a28, hD, entD, fld0, ↓aPre, aPost, oneW, allOne, retV, retVA, simprocAttr]
      refine call_giv g0 ?_
      simp -dsimp -implicitDefEqProofs (disch := first | omega | (simp only [List.length_append, List.length_cons, List.length_nil, List.length_take, List.length_drop]; omega)) only [↓aPre, aPost, oneW, allOne, retV, retVA, simprocAttr]
      refine call_giv g2 ?_
      simp -dsimp -implicitDefEqProofs (disch := first | omega | (simp only [List.length_append, List.length_cons, List.length_nil, List.length_take, List.length_drop]; omega)) only [↓aPre, aPost, oneW, allOne, retV, retVA, simprocAttr]
      refine call_giv g4 ?_
      simp -dsimp -implicitDefEqProofs (disch := first | omega | (simp only [List.length_append, List.length_cons, List.length_nil, List.length_take, List.length_drop]; omega)) only [↓aPre, aPost, oneW, allOne, retV, retVA, simprocAttr]
      refine call_giv hsz ?_
      simp -dsimp -implicitDefEqProofs (disch := first | omega | (simp only [List.length_append, List.length_cons, List.length_nil, List.length_take, List.length_drop]; omega)) only [↓aPre, aPost, oneW, allOne, retV, retVA, simprocAttr]
      refine call_giv hbg ?_
      simp -dsimp -implicitDefEqProofs (disch := first | omega | (simp only [List.length_append, List.length_cons, List.length_nil, List.length_take, List.length_drop]; omega)) only [hcl, ↓aPre, aPost, oneW, allOne, retV, retVA, simprocAttr]
      exact post_le (by repeat (first | exact leD.nil | exact leE.refl _ | exact leE.nil _ | refine leD.cons ?_ ?_ | refine leE.agg ?_))
  rw [if_neg hcl]
  obtain ⟨z, hz⟩ : ∃ z : Nat, (z : Int) = szI k := ⟨(szI k).toNat, by omega⟩
  obtain ⟨n, hn⟩ : ∃ n : Nat, (n : Int) = c := ⟨c.toNat, by omega⟩
  have hz8 : z ≤ 8 := by omega
  obtain ⟨m, hm⟩ : ∃ m : Nat, m = z * n := ⟨_, rfl⟩
  have hmi : (z : Int) * (n : Int) = (m : Int) := by rw [hm]; exact (Int.natCast_mul z n).symm
  have hmm : m ≤ 8 * 65536 := by rw [hm]; exact Nat.mul_le_mul hz8 (by omega)
  rw [← hz, ← hn, hmi]
  rw [← hz] at hsz hsp
  rw [← hn] at g4
  rw [Int.toNat_natCast, Int.toNat_natCast]
  by_cases hin : (m : Int) > (wd large : Int)
  · rw [if_pos hin]
    obtain ⟨p, hp⟩ : ∃ p : Nat, (p : Int) = a := ⟨a.toNat, by omega⟩
    rw [← hp] at gw ⊢
    rw [Int.toNat_natCast]
    by_cases hfar : (p : Int) + (m : Int) > (b.length : Int)
    · rw [if_pos hfar]
      have hw := win_any_f b p m (by omega) (by omega) (by omega) (by omega)
      refine Giv.of mixed c28 (Nat.le_of_ble_eq_true rfl) ?_
      rcases hcase with rfl | ⟨rfl, rfl⟩
      all_goals
        simp -dsimp -implicitDefEqProofs (disch := first | omega | (simp only [List.length_append, List.length_cons, List.length_nil, List.length_take, List.length_drop]; omega)) only [a28, hD, entD, fld0, ↓aPre, aPost, oneW, allOne, retV, retVA, simprocAttr]
        refine call_giv g0 ?_
        simp -dsimp -implicitDefEqProofs (disch := first | omega | (simp only [List.length_append, List.length_cons, List.length_nil, List.length_take, List.length_drop]; omega)) only [↓aPre, aPost, oneW, allOne, retV, retVA, simprocAttr]
        refine call_giv g2 ?_
        simp -dsimp -implicitDefEqProofs (disch := first | omega | (simp only [List.length_append, List.length_cons, List.length_nil, List.length_take, List.length_drop]; omega)) only [↓aPre, aPost, oneW, allOne, retV, retVA, simprocAttr]
        refine call_giv g4 ?_
        simp -dsimp -implicitDefEqProofs (disch := first | omega | (simp only [List.length_append, List.length_cons, List.length_nil, List.length_take, List.length_drop]; omega)) only [↓aPre, aPost, oneW, allOne, retV, retVA, simprocAttr]
        refine call_giv hsz ?_
        simp -dsimp -implicitDefEqProofs (disch := first | omega | (simp only [List.length_append, List.length_cons, List.length_nil, List.length_take, List.length_drop]; omega)) only [↓aPre, aPost, oneW, allOne, retV, retVA, simprocAttr]
        refine call_giv hbg ?_
        simp -dsimp -implicitDefEqProofs (disch := first | omega | (simp only [List.length_append, List.length_cons, List.length_nil, List.length_take, List.length_drop]; omega)) only [hmi, hin, hwl, e4, e6, ↓aPre, aPost, oneW, allOne, retV, retVA, simprocAttr]
        refine call_giv gw ?_
        simp -dsimp -implicitDefEqProofs (disch := first | omega | (simp only [List.length_append, List.length_cons, List.length_nil, List.length_take, List.length_drop]; omega)) only [↓aPre, aPost, oneW, allOne, retV, retVA, simprocAttr]
        refine call_giv hw ?_
        simp -dsimp -implicitDefEqProofs (disch := first | omega | (simp only [List.length_append, List.length_cons, List.length_nil, List.length_take, List.length_drop]; omega)) only [↓aPre, aPost, oneW, allOne, retV, retVA, simprocAttr]
        exact post_le (by repeat (first | exact leD.nil | exact leE.refl _ | exact leE.nil _ | refine leD.cons ?_ ?_ | refine leE.agg ?_))
    · rw [if_neg hfar]
      have hw := win_t b p m (by omega) (by omega)
      have hbl : ((b.drop p).take m).length = m := by rw [List.length_take, List.length_drop]; omega
      have hr := (read_ok hkn ((b.drop p).take m) n big (by omega) (by omega) ((hB.drop _).take _) (by rw [hbl, ← hz, hmi]; exact Int.le_refl _)).1
      obtain ⟨q, hq⟩ : ∃ q, q = (b.drop p).take m := ⟨_, rfl⟩
      rw [← hq] at hw hr ⊢
      refine Giv.of mixed c28 (Nat.le_of_ble_eq_true rfl) ?_
      rcases hcase with rfl | ⟨rfl, rfl⟩
      all_goals
        simp -dsimp -implicitDefEqProofs (disch := first | omega | (simp only [List.length_append, List.length_cons, List.length_nil, List.length_take, List.length_drop]; omega)) only [a28, hD, entD, fldD, ↓aPre, aPost, oneW, allOne, retV, retVA, simprocAttr]
        refine call_giv g0 ?_
        simp -dsimp -implicitDefEqProofs (disch := first | omega | (simp only [List.length_append, List.length_cons, List.length_nil, List.length_take, List.length_drop]; omega)) only [↓aPre, aPost, oneW, allOne, retV, retVA, simprocAttr]
        refine call_giv g2 ?_
        simp -dsimp -implicitDefEqProofs (disch := first | omega | (simp only [List.length_append, List.length_cons, List.length_nil, List.length_take, List.length_drop]; omega)) only [↓aPre, aPost, oneW, allOne, retV, retVA, simprocAttr]
        refine call_giv g4 ?_
        simp -dsimp -implicitDefEqProofs (disch := first | omega | (simp only [List.length_append, List.length_cons, List.length_nil, List.length_take, List.length_drop]; omega)) only [↓aPre, aPost, oneW, allOne, retV, retVA, simprocAttr]
        refine call_giv hsz ?_
        simp -dsimp -implicitDefEqProofs (disch := first | omega | (simp only [List.length_append, List.length_cons, List.length_nil, List.length_take, List.length_drop]; omega)) only [↓aPre, aPost, oneW, allOne, retV, retVA, simprocAttr]
        refine call_giv hbg ?_
        simp -dsimp -implicitDefEqProofs (disch := first | omega | (simp only [List.length_append, List.length_cons, List.length_nil, List.length_take, List.length_drop]; omega)) only [hmi, hin, hwl, e4, e6, ↓aPre, aPost, oneW, allOne, retV, retVA, simprocAttr]
        refine call_giv gw ?_
        simp -dsimp -implicitDefEqProofs (disch := first | omega | (simp only [List.length_append, List.length_cons, List.length_nil, List.length_take, List.length_drop]; omega)) only [↓aPre, aPost, oneW, allOne, retV, retVA, simprocAttr]
        refine call_giv hw ?_
        simp -dsimp -implicitDefEqProofs (disch := first | omega | (simp only [List.length_append, List.length_cons, List.length_nil, List.length_take, List.length_drop]; omega)) only [↓aPre, aPost, oneW, allOne, retV, retVA, simprocAttr]
        refine call_giv hr ?_
        simp -dsimp -implicitDefEqProofs (disch := first | omega | (simp only [List.length_append, List.length_cons, List.length_nil, List.length_take, List.length_drop]; omega)) only [↓aPre, aPost, oneW, allOne, retV, retVA, simprocAttr]
        exact post_eq rfl
  · rw [if_neg hin]
    have hbl : (w.drop (4 + wd large)).length = wd large := by rw [List.length_drop]; omega
    have hr := (read_ok hkn (w.drop (4 + wd large)) n big (by omega) (by omega) (hwB.drop _) (by rw [hbl, ← hz, hmi]; omega)).1
    have htk : (w.drop (4 + wd large)).take (w.length - (4 + wd large)) = w.drop (4 + wd large) := take_all (by rw [hbl]; omega)
    rw [hwl] at htk
    obtain ⟨q, hq⟩ : ∃ q, q = w.drop (4 + wd large) := ⟨_, rfl⟩
    rw [← hq] at htk hr ⊢
    refine Giv.of mixed c28 (Nat.le_of_ble_eq_true rfl) ?_
    rcases hcase with rfl | ⟨rfl, rfl⟩
    all_goals
      simp -dsimp -implicitDefEqProofs (disch := first | omega | (simp only [List.length_append, List.length_cons, List.length_nil, List.length_take, List.length_drop]; omega)) only [a28, hD, entD, fldD, ↓aPre, aPost, oneW, allOne, retV, retVA, simprocAttr]
      refine call_giv g0 ?_
      simp -dsimp -implicitDefEqProofs (disch := first | omega | (simp only [List.length_append, List.length_cons, List.length_nil, List.length_take, List.length_drop]; omega)) only [↓aPre, aPost, oneW, allOne, retV, retVA, simprocAttr]
      refine call_giv g2 ?_
      simp -dsimp -implicitDefEqProofs (disch := first | omega | (simp only [List.length_append, List.length_cons, List.length_nil, List.length_take, List.length_drop]; omega)) only [↓aPre, aPost, oneW, allOne, retV, retVA, simprocAttr]
      refine call_giv g4 ?_
      simp -dsimp -implicitDefEqProofs (disch := first | omega | (simp only [List.length_append, List.length_cons, List.length_nil, List.length_take, List.length_drop]; omega)) only [↓aPre, aPost, oneW, allOne, retV, retVA, simprocAttr]
      refine call_giv hsz ?_
      simp -dsimp -implicitDefEqProofs (disch := first | omega | (simp only [List.length_append, List.length_cons, List.length_nil, List.length_take, List.length_drop]; omega)) only [↓aPre, aPost, oneW, allOne, retV, retVA, simprocAttr]
      refine call_giv hbg ?_
      simp -dsimp -implicitDefEqProofs (disch := first | omega | (simp only [List.length_append, List.length_cons, List.length_nil, List.length_take, List.length_drop]; omega)) only [hmi, hin, hwl, e4, e6, htk, ← hq, ↓aPre, aPost, oneW, allOne, retV, retVA, simprocAttr]
      refine call_giv hr ?_
      simp -dsimp -implicitDefEqProofs (disch := first | omega | (simp only [List.length_append, List.length_cons, List.length_nil, List.length_take, List.length_drop]; omega)) only [↓aPre, aPost, oneW, allOne, retV, retVA, simprocAttr]
      exact post_eq rfl
theorem rwide_giv (wide : Bool) : Giv Try.prog 18 [.c (.bool wide)] (retV (if wide = true then [.c (.int .i64 8), .c (.int .i64 20), .c (.int .i64 8)] else [.c (.int .i64 2), .c (.int .i64 12), .c (.int .i64 4)])) := by
  refine Giv.of mixed c18 (Nat.le_of_ble_eq_true rfl) ?_
  cases wide
  all_goals
    simp -dsimp -implicitDefEqProofs (disch := first | omega | (simp only [List.length_append, List.length_cons, List.length_nil, List.length_take, List.length_drop]; omega)) only [a18, ↓aPre, aPost, oneW, allOne, retV, retVA, simprocAttr]
    exact post_eq rfl
theorem radd_t (a b : Int) (ha : 0 ≤ a) (hb : 0 ≤ b) (h : a + b < 18446744073709551616) : Giv Try.prog 30 [.c (.int .u64 a), .c (.int .u64 b)] (retV [.c (.int .u64 (a + b)), .c (.int .i64 0)]) := by
  refine Giv.of mixed c30 (Nat.le_of_ble_eq_true rfl) ?_
  have h1 : ¬ b > 18446744073709551615 - a := by omega
  simp -dsimp -implicitDefEqProofs (disch := first | omega | (simp only [List.length_append, List.length_cons, List.length_nil, List.length_take, List.length_drop]; omega)) only [a30, h1, ↓aPre, aPost, oneW, allOne, retV, retVA, simprocAttr]
  exact post_eq rfl
theorem radd_o (a b : Int) (ha : 0 ≤ a ∧ a < 18446744073709551616) (hb : 0 ≤ b) (h : 18446744073709551616 ≤ a + b) : Giv Try.prog 30 [.c (.int .u64 a), .c (.int .u64 b)] (retV [.c (.int .u64 0), .c (.int .i64 7)]) := by
  refine Giv.of mixed c30 (Nat.le_of_ble_eq_true rfl) ?_
  have h1 : b > 18446744073709551615 - a := by omega
  simp -dsimp -implicitDefEqProofs (disch := first | omega | (simp only [List.length_append, List.length_cons, List.length_nil, List.length_take, List.length_drop]; omega)) only [a30, h1, ↓aPre, aPost, oneW, allOne, retV, retVA, simprocAttr]
  exact post_eq rfl
theorem rwin_t (b : List Int) (p n : Nat) (hl : b.length ≤ 1000000) (h : p + n ≤ b.length) : Giv Try.prog 20 [.c (.string (strOfNums b)), .c (.int .u64 p), .c (.int .u64 n)] (retV [.c (.string (strOfNums ((b.drop p).take n))), .c (.int .i64 0)]) := by
  refine Giv.of mixed c20 (Nat.le_of_ble_eq_true rfl) ?_
  have e1 : ((p : Int) + n).toNat - p = n := by omega
  simp -dsimp -implicitDefEqProofs (disch := first | omega | (simp only [List.length_append, List.length_cons, List.length_nil, List.length_take, List.length_drop]; omega)) only [a20, ↓aPre, aPost, oneW, allOne, retV, retVA, simprocAttr]
  refine call_giv (radd_t p n (by omega) (by omega) (by omega)) ?_
  simp -dsimp -implicitDefEqProofs (disch := first | omega | (simp only [List.length_append, List.length_cons, List.length_nil, List.length_take, List.length_drop]; omega)) only [e1, ↓aPre, aPost, oneW, allOne, retV, retVA, simprocAttr]
  exact post_eq rfl
theorem rwin_f (b : List Int) (p n : Nat) (hl : b.length ≤ 1000000) (h : b.length < p + n) (ha : p < 18446744073709551616) (hn : n < 18446744073709551616) : Giv Try.prog 20 [.c (.string (strOfNums b)), .c (.int .u64 p), .c (.int .u64 n)] (retV [.c (.string (strOfNums [])), .c (.int .i64 2)]) := by
  refine Giv.of mixed c20 (Nat.le_of_ble_eq_true rfl) ?_
  by_cases hs : p + n < 18446744073709551616
  · have hgt : (p : Int) + (n : Int) > (b.length : Int) := by omega
    simp -dsimp -implicitDefEqProofs (disch := first | omega | (simp only [List.length_append, List.length_cons, List.length_nil, List.length_take, List.length_drop]; omega)) only [a20, ↓aPre, aPost, oneW, allOne, retV, retVA, simprocAttr]
    refine call_giv (radd_t p n (by omega) (by omega) (by omega)) ?_
    simp -dsimp -implicitDefEqProofs (disch := first | omega | (simp only [List.length_append, List.length_cons, List.length_nil, List.length_take, List.length_drop]; omega)) only [hgt, ↓aPre, aPost, oneW, allOne, retV, retVA, simprocAttr]
    exact post_eq rfl
  · simp -dsimp -implicitDefEqProofs (disch := first | omega | (simp only [List.length_append, List.length_cons, List.length_nil, List.length_take, List.length_drop]; omega)) only [a20, ↓aPre, aPost, oneW, allOne, retV, retVA, simprocAttr]
    refine call_giv (radd_o p n (by omega) (by omega) (by omega)) ?_
    simp -dsimp -implicitDefEqProofs (disch := first | omega | (simp only [List.length_append, List.length_cons, List.length_nil, List.length_take, List.length_drop]; omega)) only [↓aPre, aPost, oneW, allOne, retV, retVA, simprocAttr]
    exact post_eq rfl
theorem rget_t (b : List Int) (p n : Nat) (big : Bool) (hn : sizedP (n : Int)) (hl : b.length ≤ 1000000) (hB : Bytes b) (h : p + n ≤ b.length) : Giv Try.prog 19 [.c (.string (strOfNums b)), .c (.int .u64 p), .c (.int .i64 n), .c (.bool big)] (retV [.c (.int .u64 (gk b p n big)), .c (.int .i64 0)]) := by
  refine Giv.of mixed c19 (Nat.le_of_ble_eq_true rfl) ?_
  have hn8 : n ≤ 8 := by unfold sizedP at hn; omega
  have hwl : ((b.drop p).take n).length = n := by rw [List.length_take, List.length_drop]; omega
  have hg := number_giv ((b.drop p).take n) big (by omega) ((hB.drop _).take _)
  rw [hwl] at hg
  simp -dsimp -implicitDefEqProofs (disch := first | omega | (simp only [List.length_append, List.length_cons, List.length_nil, List.length_take, List.length_drop]; omega)) only [a19, ↓aPre, aPost, oneW, allOne, retV, retVA, simprocAttr]
  refine call_giv (rsized_t hn) ?_
  simp -dsimp -implicitDefEqProofs (disch := first | omega | (simp only [List.length_append, List.length_cons, List.length_nil, List.length_take, List.length_drop]; omega)) only [↓aPre, aPost, oneW, allOne, retV, retVA, simprocAttr]
  refine call_giv (rwin_t b p n hl h) ?_
  simp -dsimp -implicitDefEqProofs (disch := first | omega | (simp only [List.length_append, List.length_cons, List.length_nil, List.length_take, List.length_drop]; omega)) only [↓aPre, aPost, oneW, allOne, retV, retVA, simprocAttr]
  refine call_giv hg ?_
  simp -dsimp -implicitDefEqProofs (disch := first | omega | (simp only [List.length_append, List.length_cons, List.length_nil, List.length_take, List.length_drop]; omega)) only [↓aPre, aPost, oneW, allOne, retV, retVA, simprocAttr]
  exact post_eq rfl
theorem rget_f (b : List Int) (p n : Nat) (big : Bool) (hn : sizedP (n : Int)) (hl : b.length ≤ 1000000) (h : b.length < p + n) (hp : p < 18446744073709551616) : Giv Try.prog 19 [.c (.string (strOfNums b)), .c (.int .u64 p), .c (.int .i64 n), .c (.bool big)] (retV [.c (.int .u64 0), .c (.int .i64 2)]) := by
  refine Giv.of mixed c19 (Nat.le_of_ble_eq_true rfl) ?_
  have hn8 : n ≤ 8 := by unfold sizedP at hn; omega
  have hg := number_giv [] big (by simp) (fun z hz => by cases hz)
  simp -dsimp -implicitDefEqProofs (disch := first | omega | (simp only [List.length_append, List.length_cons, List.length_nil, List.length_take, List.length_drop]; omega)) only [a19, ↓aPre, aPost, oneW, allOne, retV, retVA, simprocAttr]
  refine call_giv (rsized_t hn) ?_
  simp -dsimp -implicitDefEqProofs (disch := first | omega | (simp only [List.length_append, List.length_cons, List.length_nil, List.length_take, List.length_drop]; omega)) only [↓aPre, aPost, oneW, allOne, retV, retVA, simprocAttr]
  refine call_giv (rwin_f b p n hl h hp (by omega)) ?_
  simp -dsimp -implicitDefEqProofs (disch := first | omega | (simp only [List.length_append, List.length_cons, List.length_nil, List.length_take, List.length_drop]; omega)) only [↓aPre, aPost, oneW, allOne, retV, retVA, simprocAttr]
  refine call_giv hg ?_
  simp -dsimp -implicitDefEqProofs (disch := first | omega | (simp only [List.length_append, List.length_cons, List.length_nil, List.length_take, List.length_drop]; omega)) only [↓aPre, aPost, oneW, allOne, retV, retVA, simprocAttr]
  exact post_eq rfl
theorem entry_giv (b w : List Int) (big large : Bool) (first : Int) (hl : b.length ≤ 100000) (hB : Bytes b) (hwl : w.length = 4 + 2 * wd large) (hwB : Bytes w) :
    Giv Try.prog 22 [.c (.string (strOfNums b)), .c (.string (strOfNums w)), hD big large first, .c (.int .i64 (wd large))] (retV (entD (entS b w big large))) := by
  have hwd : wd large = 4 ∨ wd large = 8 := by cases large <;> decide
  have num : ∀ p n, n ≤ 8 → p + n ≤ w.length → Giv Try.prog 21 [.c (.string (strOfNums ((w.drop p).take n))), .c (.bool big)] (retV [.c (.int .u64 (gk w p n big))]) := fun p n hn h => by
    have hl : ((w.drop p).take n).length = n := by rw [List.length_take, List.length_drop]; omega
    have := number_giv ((w.drop p).take n) big (by omega) ((hwB.drop _).take _)
    rw [hl] at this
    exact this
  have g0 := num 0 2 (by omega) (by omega)
  have g2 := num 2 2 (by omega) (by omega)
  have g4 := num 4 (wd large) (by omega) (by omega)
  have gw := num (4 + wd large) (wd large) (by omega) (by omega)
  have htw : (w.drop (4 + wd large)).take (wd large) = w.drop (4 + wd large) := take_all (by rw [List.length_drop]; omega)
  rw [htw] at gw
  rw [List.drop_zero] at g0
  have b0 := gk_2 hwB 0 big
  have b2 := gk_2 hwB 2 big
  have b4 := gk_b hwB 4 (wd large) big (by omega)
  have bw := gk_b hwB (4 + wd large) (wd large) big (by omega)
  unfold entS
  obtain ⟨t, ht⟩ : ∃ t, t = gk w 0 2 big := ⟨_, rfl⟩
  obtain ⟨k, hk⟩ : ∃ k, k = gk w 2 2 big := ⟨_, rfl⟩
  obtain ⟨c, hc⟩ : ∃ c, c = gk w 4 (wd large) big := ⟨_, rfl⟩
  obtain ⟨a, ha⟩ : ∃ a, a = gk w (4 + wd large) (wd large) big := ⟨_, rfl⟩
  rw [← ht] at g0 b0
  rw [← hk] at g2 b2
  rw [← hc] at g4 b4
  rw [← ha] at gw bw
  rw [← ht, ← hk, ← hc, ← ha]
  have hsz := rsize_giv k
  have e4 : ((4 : Int) + (wd large : Int)).toNat = 4 + wd large := by omega
  have e6 : ((4 : Int) + ((2 * wd large : Nat) : Int)).toNat = 4 + 2 * wd large := by omega
  have e5 : 4 + wd large - 4 = wd large := by omega
  by_cases hkn : knownP k
  rotate_left
  · rw [if_pos (.inl hkn)]
    rw [sz_0 hkn] at hsz
    refine Giv.of mixed c22 (Nat.le_of_ble_eq_true rfl) ?_
    simp -dsimp -implicitDefEqProofs (disch := first | omega | (simp only [List.length_append, List.length_cons, List.length_nil, List.length_take, List.length_drop]; omega)) only [a22, hD, entD, fld0, hwl, e4, e5, ↓aPre, aPost, oneW, allOne, retV, retVA, simprocAttr]
    refine call_giv g2 ?_
    simp -dsimp -implicitDefEqProofs (disch := first | omega | (simp only [List.length_append, List.length_cons, List.length_nil, List.length_take, List.length_drop]; omega)) only [hwl, e4, e5, ↓aPre, aPost, oneW, allOne, retV, retVA, simprocAttr]
    refine call_giv g4 ?_
    simp -dsimp -implicitDefEqProofs (disch := first | omega | (simp only [List.length_append, List.length_cons, List.length_nil, List.length_take, List.length_drop]; omega)) only [↓aPre, aPost, oneW, allOne, retV, retVA, simprocAttr]
    refine call_giv hsz ?_
    simp -dsimp -implicitDefEqProofs (disch := first | omega | (simp only [List.length_append, List.length_cons, List.length_nil, List.length_take, List.length_drop]; omega)) only [↓aPre, aPost, oneW, allOne, retV, retVA, simprocAttr]
    exact post_le (by repeat (first | exact leD.nil | exact leE.refl _ | exact leE.nil _ | refine leD.cons ?_ ?_ | refine leE.agg ?_))
  have hsp := sz_pos hkn
  have hz0 : ¬ szI k = 0 := by omega
  by_cases hlg : 16 ≤ k ∧ large = false
  · rw [if_pos (.inr hlg)]
    obtain ⟨h16, rfl⟩ := hlg
    refine Giv.of mixed c22 (Nat.le_of_ble_eq_true rfl) ?_
    simp -dsimp -implicitDefEqProofs (disch := first | omega | (simp only [List.length_append, List.length_cons, List.length_nil, List.length_take, List.length_drop]; omega)) only [a22, hD, entD, fld0, hwl, e4, e5, ↓aPre, aPost, oneW, allOne, retV, retVA, simprocAttr]
    refine call_giv g2 ?_
    simp -dsimp -implicitDefEqProofs (disch := first | omega | (simp only [List.length_append, List.length_cons, List.length_nil, List.length_take, List.length_drop]; omega)) only [hwl, e4, e5, ↓aPre, aPost, oneW, allOne, retV, retVA, simprocAttr]
    refine call_giv g4 ?_
    simp -dsimp -implicitDefEqProofs (disch := first | omega | (simp only [List.length_append, List.length_cons, List.length_nil, List.length_take, List.length_drop]; omega)) only [↓aPre, aPost, oneW, allOne, retV, retVA, simprocAttr]
    refine call_giv hsz ?_
    simp -dsimp -implicitDefEqProofs (disch := first | omega | (simp only [List.length_append, List.length_cons, List.length_nil, List.length_take, List.length_drop]; omega)) only [ibeq_f hz0, hz0, ↓aPre, aPost, oneW, allOne, retV, retVA, simprocAttr]
    exact post_le (by repeat (first | exact leD.nil | exact leE.refl _ | exact leE.nil _ | refine leD.cons ?_ ?_ | refine leE.agg ?_))
  rw [if_neg (by rintro (h | h); exact h hkn; exact hlg h)]
  have hcase : ¬ k ≥ 16 ∨ (k ≥ 16 ∧ large = true) := by
    by_cases h16 : 16 ≤ k
    · cases large
      · exact absurd ⟨h16, rfl⟩ hlg
      · exact .inr ⟨h16, rfl⟩
    · exact .inl h16
  clear hlg
  by_cases hcl : c > 65536
  · rw [if_pos hcl]
    refine Giv.of mixed c22 (Nat.le_of_ble_eq_true rfl) ?_
    rcases hcase with h16 | ⟨h16, rfl⟩
    all_goals
      simp -dsimp -implicitDefEqProofs (disch := first | omega | (simp only [List.length_append, List.length_cons, List.length_nil, List.length_take, List.length_drop]; omega)) only [a22, hD, entD, fld0, hwl, e4, e5, ↓aPre, aPost, oneW, allOne, retV, retVA, simprocAttr]
      refine call_giv g2 ?_
      simp -dsimp -implicitDefEqProofs (disch := first | omega | (simp only [List.length_append, List.length_cons, List.length_nil, List.length_take, List.length_drop]; omega)) only [hwl, e4, e5, ↓aPre, aPost, oneW, allOne, retV, retVA, simprocAttr]
      refine call_giv g4 ?_
      simp -dsimp -implicitDefEqProofs (disch := first | omega | (simp only [List.length_append, List.length_cons, List.length_nil, List.length_take, List.length_drop]; omega)) only [↓aPre, aPost, oneW, allOne, retV, retVA, simprocAttr]
      refine call_giv hsz ?_
      simp -dsimp -implicitDefEqProofs (disch := first | omega | (simp only [List.length_append, List.length_cons, List.length_nil, List.length_take, List.length_drop]; omega)) only [ibeq_f hz0, hz0, h16, hcl, ↓aPre, aPost, oneW, allOne, retV, retVA, simprocAttr]
      exact post_le (by repeat (first | exact leD.nil | exact leE.refl _ | exact leE.nil _ | refine leD.cons ?_ ?_ | refine leE.agg ?_))
  rw [if_neg hcl]
  obtain ⟨z, hz⟩ : ∃ z : Nat, (z : Int) = szI k := ⟨(szI k).toNat, by omega⟩
  obtain ⟨n, hn⟩ : ∃ n : Nat, (n : Int) = c := ⟨c.toNat, by omega⟩
  have hz8 : z ≤ 8 := by omega
  obtain ⟨m, hm⟩ : ∃ m : Nat, m = z * n := ⟨_, rfl⟩
  have hmi : (z : Int) * (n : Int) = (m : Int) := by rw [hm]; exact (Int.natCast_mul z n).symm
  have hmm : m ≤ 8 * 65536 := by rw [hm]; exact Nat.mul_le_mul hz8 (by omega)
  rw [← hz, ← hn, hmi]
  rw [← hz] at hsz hsp hz0
  rw [← hn] at g4
  rw [Int.toNat_natCast, Int.toNat_natCast]
  have hbl : (w.drop (4 + wd large)).length = wd large := by rw [List.length_drop]; omega
  have htk : (w.drop (4 + wd large)).take (4 + 2 * wd large - (4 + wd large)) = w.drop (4 + wd large) := take_all (by rw [hbl]; omega)
  by_cases hin : (m : Int) > (wd large : Int)
  · rw [if_pos hin]
    obtain ⟨p, hp⟩ : ∃ p : Nat, (p : Int) = a := ⟨a.toNat, by omega⟩
    rw [← hp] at gw ⊢
    rw [Int.toNat_natCast]
    by_cases hfar : (p : Int) + (m : Int) > (b.length : Int)
    · rw [if_pos hfar]
      have hw := rwin_f b p m (by omega) (by omega) (by omega) (by omega)
      refine Giv.of mixed c22 (Nat.le_of_ble_eq_true rfl) ?_
      rcases hcase with h16 | ⟨h16, rfl⟩
      all_goals
        simp -dsimp -implicitDefEqProofs (disch := first | omega | (simp only [List.length_append, List.length_cons, List.length_nil, List.length_take, List.length_drop]; omega)) only [a22, hD, entD, fld0, hwl, e4, e5, ↓aPre, aPost, oneW, allOne, retV, retVA, simprocAttr]
        refine call_giv g2 ?_
        simp -dsimp -implicitDefEqProofs (disch := first | omega | (simp only [List.length_append, List.length_cons, List.length_nil, List.length_take, List.length_drop]; omega)) only [hwl, e4, e5, ↓aPre, aPost, oneW, allOne, retV, retVA, simprocAttr]
        refine call_giv g4 ?_
        simp -dsimp -implicitDefEqProofs (disch := first | omega | (simp only [List.length_append, List.length_cons, List.length_nil, List.length_take, List.length_drop]; omega)) only [↓aPre, aPost, oneW, allOne, retV, retVA, simprocAttr]
        refine call_giv hsz ?_
        simp -dsimp -implicitDefEqProofs (disch := first | omega | (simp only [List.length_append, List.length_cons, List.length_nil, List.length_take, List.length_drop]; omega)) only [ibeq_f hz0, hz0, h16, hcl, hmi, hin, hwl, e4, e6, htk, ↓aPre, aPost, oneW, allOne, retV, retVA, simprocAttr]
        refine call_giv gw ?_
        simp -dsimp -implicitDefEqProofs (disch := first | omega | (simp only [List.length_append, List.length_cons, List.length_nil, List.length_take, List.length_drop]; omega)) only [hmi, ↓aPre, aPost, oneW, allOne, retV, retVA, simprocAttr]
        refine call_giv hw ?_
        simp -dsimp -implicitDefEqProofs (disch := first | omega | (simp only [List.length_append, List.length_cons, List.length_nil, List.length_take, List.length_drop]; omega)) only [↓aPre, aPost, oneW, allOne, retV, retVA, simprocAttr]
        exact post_le (by repeat (first | exact leD.nil | exact leE.refl _ | exact leE.nil _ | refine leD.cons ?_ ?_ | refine leE.agg ?_))
    · rw [if_neg hfar]
      have hw := rwin_t b p m (by omega) (by omega)
      have hbl2 : ((b.drop p).take m).length = m := by rw [List.length_take, List.length_drop]; omega
      have hr := (read_ok hkn ((b.drop p).take m) n big (by omega) (by omega) ((hB.drop _).take _) (by rw [hbl2, ← hz, hmi]; exact Int.le_refl _)).2
      obtain ⟨q, hq⟩ : ∃ q, q = (b.drop p).take m := ⟨_, rfl⟩
      rw [← hq] at hw hr ⊢
      refine Giv.of mixed c22 (Nat.le_of_ble_eq_true rfl) ?_
      rcases hcase with h16 | ⟨h16, rfl⟩
      all_goals
        simp -dsimp -implicitDefEqProofs (disch := first | omega | (simp only [List.length_append, List.length_cons, List.length_nil, List.length_take, List.length_drop]; omega)) only [a22, hD, entD, fldD, hwl, e4, e5, ↓aPre, aPost, oneW, allOne, retV, retVA, simprocAttr]
        refine call_giv g2 ?_
        simp -dsimp -implicitDefEqProofs (disch := first | omega | (simp only [List.length_append, List.length_cons, List.length_nil, List.length_take, List.length_drop]; omega)) only [hwl, e4, e5, ↓aPre, aPost, oneW, allOne, retV, retVA, simprocAttr]
        refine call_giv g4 ?_
        simp -dsimp -implicitDefEqProofs (disch := first | omega | (simp only [List.length_append, List.length_cons, List.length_nil, List.length_take, List.length_drop]; omega)) only [↓aPre, aPost, oneW, allOne, retV, retVA, simprocAttr]
        refine call_giv hsz ?_
        simp -dsimp -implicitDefEqProofs (disch := first | omega | (simp only [List.length_append, List.length_cons, List.length_nil, List.length_take, List.length_drop]; omega)) only [ibeq_f hz0, hz0, h16, hcl, hmi, hin, hwl, e4, e6, htk, ↓aPre, aPost, oneW, allOne, retV, retVA, simprocAttr]
        refine call_giv gw ?_
        simp -dsimp -implicitDefEqProofs (disch := first | omega | (simp only [List.length_append, List.length_cons, List.length_nil, List.length_take, List.length_drop]; omega)) only [hmi, ↓aPre, aPost, oneW, allOne, retV, retVA, simprocAttr]
        refine call_giv hw ?_
        simp -dsimp -implicitDefEqProofs (disch := first | omega | (simp only [List.length_append, List.length_cons, List.length_nil, List.length_take, List.length_drop]; omega)) only [↓aPre, aPost, oneW, allOne, retV, retVA, simprocAttr]
        refine call_giv hr ?_
        simp -dsimp -implicitDefEqProofs (disch := first | omega | (simp only [List.length_append, List.length_cons, List.length_nil, List.length_take, List.length_drop]; omega)) only [hwl, ↓aPre, aPost, oneW, allOne, retV, retVA, simprocAttr]
        refine call_giv g0 ?_
        simp -dsimp -implicitDefEqProofs (disch := first | omega | (simp only [List.length_append, List.length_cons, List.length_nil, List.length_take, List.length_drop]; omega)) only [↓aPre, aPost, oneW, allOne, retV, retVA, simprocAttr]
        exact post_eq rfl
  · rw [if_neg hin]
    have hr := (read_ok hkn (w.drop (4 + wd large)) n big (by omega) (by omega) (hwB.drop _) (by rw [hbl, ← hz, hmi]; omega)).2
    obtain ⟨q, hq⟩ : ∃ q, q = w.drop (4 + wd large) := ⟨_, rfl⟩
    rw [← hq] at htk hr ⊢
    refine Giv.of mixed c22 (Nat.le_of_ble_eq_true rfl) ?_
    rcases hcase with h16 | ⟨h16, rfl⟩
    all_goals
      simp -dsimp -implicitDefEqProofs (disch := first | omega | (simp only [List.length_append, List.length_cons, List.length_nil, List.length_take, List.length_drop]; omega)) only [a22, hD, entD, fldD, hwl, e4, e5, ↓aPre, aPost, oneW, allOne, retV, retVA, simprocAttr]
      refine call_giv g2 ?_
      simp -dsimp -implicitDefEqProofs (disch := first | omega | (simp only [List.length_append, List.length_cons, List.length_nil, List.length_take, List.length_drop]; omega)) only [hwl, e4, e5, ↓aPre, aPost, oneW, allOne, retV, retVA, simprocAttr]
      refine call_giv g4 ?_
      simp -dsimp -implicitDefEqProofs (disch := first | omega | (simp only [List.length_append, List.length_cons, List.length_nil, List.length_take, List.length_drop]; omega)) only [↓aPre, aPost, oneW, allOne, retV, retVA, simprocAttr]
      refine call_giv hsz ?_
      simp -dsimp -implicitDefEqProofs (disch := first | omega | (simp only [List.length_append, List.length_cons, List.length_nil, List.length_take, List.length_drop]; omega)) only [ibeq_f hz0, hz0, h16, hcl, hmi, hin, hwl, e4, e6, htk, ← hq, ↓aPre, aPost, oneW, allOne, retV, retVA, simprocAttr]
      refine call_giv hr ?_
      simp -dsimp -implicitDefEqProofs (disch := first | omega | (simp only [List.length_append, List.length_cons, List.length_nil, List.length_take, List.length_drop]; omega)) only [hwl, ↓aPre, aPost, oneW, allOne, retV, retVA, simprocAttr]
      refine call_giv g0 ?_
      simp -dsimp -implicitDefEqProofs (disch := first | omega | (simp only [List.length_append, List.length_cons, List.length_nil, List.length_take, List.length_drop]; omega)) only [↓aPre, aPost, oneW, allOne, retV, retVA, simprocAttr]
      exact post_eq rfl
end Go.Proofs.Ytpjnpmdmcllilaa

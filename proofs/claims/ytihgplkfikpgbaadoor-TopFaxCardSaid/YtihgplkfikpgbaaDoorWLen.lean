/- A length written. No condition but what each says. A length read. No condition but what each says. A mode read. No condition but what each says. -/
import Derived.Test.YtihgplkfikpgbaaDoorWCod
set_option linter.unusedSimpArgs false
set_option linter.unusedVariables false
set_option maxRecDepth 8000
set_option maxHeartbeats 4000000
namespace Go.Proofs.YtihgplkfikpgbaaDoor
open Go.Eng Go.RowKit
theorem wlen_m (f : Nat → Int) (hf : Bit f) (m : Nat) (n : Nat) (bl : Bool) (hn : n ≤ 2000) (hA : At f m (lB bl n)) (hm : m < 900000) : GivM Tryd.prog 36 [.d coD, .ptr 2000000 0, .d (.c (.int .i64 n)), .d (.c (.bool bl))] [(2000000, .box [.sl 1000000 1 0 (pk f m).length, .d (.c (.int .i64 (m : Nat))), .d (.c (.bool false))]), (1000000, .row 1 (li .u8 (pk f m)))] (.d (.c (.int .i64 0))) [(2000000, .box [.sl 1000000 1 0 (pk f (m + (lB bl n).length)).length, .d (.c (.int .i64 ((m + (lB bl n).length) : Nat))), .d (.c (.bool false))]), (1000000, .row 1 (li .u8 (pk f (m + (lB bl n).length))))] := by
  have hbg := book_giv bl
  obtain ⟨B, hBe⟩ : ∃ B, B = bkC bl := ⟨_, rfl⟩
  have hw : ∀ (i : Nat), i < 104 → ∀ q, At f q (wd bl i) → q < 990000 → GivM Tryd.prog 57 [.d (.ref B), .ptr 2000000 0, .d (.c (.int .i64 i))] [(2000000, .box [.sl 1000000 1 0 (pk f q).length, .d (.c (.int .i64 (q : Nat))), .d (.c (.bool false))]), (1000000, .row 1 (li .u8 (pk f q)))] (.d (.c (.int .i64 0))) [(2000000, .box [.sl 1000000 1 0 (pk f (q + (wd bl i).length)).length, .d (.c (.int .i64 ((q + (wd bl i).length) : Nat))), .d (.c (.bool false))]), (1000000, .row 1 (li .u8 (pk f (q + (wd bl i).length))))] := fun i hi q hq hq2 => by
    obtain ⟨h1, h2, h3⟩ := wd_ok bl hi
    have := bwrite_m (clN bl) (msL 104) (clW bl) (by rw [cl_len]; decide) (i := i) (by rw [cl_len]; exact hi) f hf q (L := wd bl i) rfl h1 h2 hq (by omega)
    rw [← bk_is, ← hBe] at this
    exact this
  rw [← hBe] at hbg
  unfold lB at hA ⊢
  rw [Int.toNat_natCast] at hA ⊢
  obtain ⟨A1, A2⟩ := hA.app
  have hw2 := fun q hq hq2 => hw (n % 64) (by omega) q hq hq2
  have hfin := hw2 _ A2 (by
    split
    · have := (wd_ok bl (i := 63 + n / 64) (by omega)).2.2
      omega
    · rw [List.length_nil]; omega)
  unfold coD at hbg ⊢
  by_cases c : n < 64
  · have h64 : ¬ (64 : Int) ≤ (n : Int) := by omega
    have hmod : n % 64 = n := Nat.mod_eq_of_lt c
    rw [if_neg h64, List.length_nil, Nat.add_zero, hmod] at hfin
    rw [if_neg h64, List.nil_append, hmod]
    refine GivM.of mixed c36 (Nat.le_of_ble_eq_true rfl) rfl rfl ?_
    simp -dsimp -implicitDefEqProofs (disch := first | omega | (simp only [List.length_append, List.length_cons, List.length_nil, List.length_take, List.length_drop]; omega)) only [a36, ↓aPre, aPost, oneW, allOne, retV, retVA, simprocAttr]
    refine call_giv hbg ?_
    simp -dsimp -implicitDefEqProofs (disch := first | omega | (simp only [List.length_append, List.length_cons, List.length_nil, List.length_take, List.length_drop]; omega)) only [↓aPre, aPost, oneW, allOne, retV, retVA, simprocAttr]
    refine loop_of (fun s => s.tm 1 = .ptr 2000000 0 ∧ s.tm 2 = .d (.c (.int .i64 n)) ∧ s.tm 9 = .d (.ref B) ∧ s.hp 2000000 = some (.box [.sl 1000000 1 0 (pk f m).length, .d (.c (.int .i64 (m : Nat))), .d (.c (.bool false))]) ∧ s.hp 1000000 = some (.row 1 (li .u8 (pk f m)))) (fun s => 0) ?_ ?_
    · simp -dsimp -implicitDefEqProofs (disch := first | omega | (simp only [List.length_append, List.length_cons, List.length_nil, List.length_take, List.length_drop]; omega)) only [↓aPre, aPost, oneW, allOne, retV, retVA, simprocAttr]
    rintro s hs
    simp -dsimp -implicitDefEqProofs (disch := first | omega | (simp only [List.length_append, List.length_cons, List.length_nil, List.length_take, List.length_drop]; omega)) only [hs, ↓aPre, aPost, oneW, allOne, retV, retVA, simprocAttr]
    refine call_mut hfin [] rfl rfl ?_ ?_
    · simp -dsimp -implicitDefEqProofs (disch := first | omega | (simp only [List.length_append, List.length_cons, List.length_nil, List.length_take, List.length_drop]; omega)) only [hs, ↓aPre, aPost, oneW, allOne, retV, retVA, simprocAttr]
    simp -dsimp -implicitDefEqProofs (disch := first | omega | (simp only [List.length_append, List.length_cons, List.length_nil, List.length_take, List.length_drop]; omega)) only [hs, ↓aPre, aPost, oneW, allOne, retV, retVA, simprocAttr]
    refine end_of rfl ?_
    simp -dsimp -implicitDefEqProofs (disch := first | omega | (simp only [List.length_append, List.length_cons, List.length_nil, List.length_take, List.length_drop]; omega)) only [hs, ↓aPre, aPost, oneW, allOne, retV, retVA, simprocAttr]
  · have h64 : (64 : Int) ≤ (n : Int) := by omega
    rw [if_pos h64] at A1 hfin ⊢
    have hfst := hw (63 + n / 64) (by omega) m A1 (by omega)
    rw [List.length_append]
    obtain ⟨q, hq⟩ : ∃ q, q = n / 64 := ⟨_, rfl⟩
    obtain ⟨r, hr⟩ : ∃ r, r = n % 64 := ⟨_, rfl⟩
    rw [← hq] at hfst hfin ⊢
    rw [← hr] at hfin ⊢
    obtain ⟨u, hu⟩ : ∃ u, u = (wd bl (63 + q)).length := ⟨_, rfl⟩
    rw [← hu] at hfst hfin ⊢
    obtain ⟨v, hv⟩ : ∃ v, v = (wd bl r).length := ⟨_, rfl⟩
    rw [← hv] at hfin ⊢
    have hmm : ¬ (2560 : Int) < (n : Int) := by omega
    have hquo : (n : Int).tdiv 64 = (q : Int) := by
      rw [Int.tdiv_eq_ediv_of_nonneg (by omega)]; omega
    have hsub : (n : Int) - 64 * (q : Int) = (r : Int) := by omega
    have hge : (n : Int) ≥ 64 := h64
    have hu2 : u ≤ 13 := by
      rw [hu, hq]
      exact (wd_ok bl (by omega)).2.2
    refine GivM.of mixed c36 (Nat.le_of_ble_eq_true rfl) rfl rfl ?_
    simp -dsimp -implicitDefEqProofs (disch := first | omega | (simp only [List.length_append, List.length_cons, List.length_nil, List.length_take, List.length_drop]; omega)) only [a36, ↓aPre, aPost, oneW, allOne, retV, retVA, simprocAttr]
    refine call_giv hbg ?_
    simp -dsimp -implicitDefEqProofs (disch := first | omega | (simp only [List.length_append, List.length_cons, List.length_nil, List.length_take, List.length_drop]; omega)) only [↓aPre, aPost, oneW, allOne, retV, retVA, simprocAttr]
    refine loop_of (fun s => ∃ b : Bool, s.tm 1 = .ptr 2000000 0 ∧ s.tm 2 = .d (.c (.int .i64 (if b then (r : Int) else (n : Int)))) ∧ s.tm 9 = .d (.ref B) ∧ s.hp 2000000 = some (.box [.sl 1000000 1 0 (pk f (if b then m + u else m)).length, .d (.c (.int .i64 ((if b then m + u else m) : Nat))), .d (.c (.bool false))]) ∧ s.hp 1000000 = some (.row 1 (li .u8 (pk f (if b then m + u else m))))) (fun s => (avN (s.tm 2)).toNat) ?_ ?_
    · refine ⟨false, ?_⟩
      simp -dsimp -implicitDefEqProofs (disch := first | omega | (simp only [List.length_append, List.length_cons, List.length_nil, List.length_take, List.length_drop]; omega)) only [↓aPre, aPost, oneW, allOne, retV, retVA, simprocAttr]
    rintro s ⟨b, hs⟩
    cases b
    · have hs2 := hs
      simp only [Bool.false_eq_true, if_false] at hs2
      simp -dsimp -implicitDefEqProofs (disch := first | omega | (simp only [List.length_append, List.length_cons, List.length_nil, List.length_take, List.length_drop]; omega)) only [hs2, hmm, hquo, hge, ↓aPre, aPost, oneW, allOne, retV, retVA, simprocAttr]
      refine call_mut hfst [] rfl rfl ?_ ?_
      · simp -dsimp -implicitDefEqProofs (disch := first | omega | (simp only [List.length_append, List.length_cons, List.length_nil, List.length_take, List.length_drop]; omega)) only [hs2, ↓aPre, aPost, oneW, allOne, retV, retVA, simprocAttr]
      simp -dsimp -implicitDefEqProofs (disch := first | omega | (simp only [List.length_append, List.length_cons, List.length_nil, List.length_take, List.length_drop]; omega)) only [hs2, hsub, ibne_f, ↓aPre, aPost, oneW, allOne, retV, retVA, simprocAttr]
      refine round_of ⟨true, ?_⟩ ?_
      · simp -dsimp -implicitDefEqProofs (disch := first | omega | (simp only [List.length_append, List.length_cons, List.length_nil, List.length_take, List.length_drop]; omega)) only [hs2, hsub, ↓aPre, aPost, oneW, allOne, retV, retVA, simprocAttr]
      · simp -dsimp -implicitDefEqProofs (disch := first | omega | (simp only [List.length_append, List.length_cons, List.length_nil, List.length_take, List.length_drop]; omega)) only [hs2, hsub, ↓aPre, aPost, oneW, allOne, retV, retVA, simprocAttr]
        omega
    · have hs2 := hs
      simp only [if_true] at hs2
      have hge2 : ¬ (r : Int) ≥ 64 := by omega
      simp -dsimp -implicitDefEqProofs (disch := first | omega | (simp only [List.length_append, List.length_cons, List.length_nil, List.length_take, List.length_drop]; omega)) only [hs2, hge2, ↓aPre, aPost, oneW, allOne, retV, retVA, simprocAttr]
      refine call_mut hfin [] rfl rfl ?_ ?_
      · simp -dsimp -implicitDefEqProofs (disch := first | omega | (simp only [List.length_append, List.length_cons, List.length_nil, List.length_take, List.length_drop]; omega)) only [hs2, ↓aPre, aPost, oneW, allOne, retV, retVA, simprocAttr]
      simp -dsimp -implicitDefEqProofs (disch := first | omega | (simp only [List.length_append, List.length_cons, List.length_nil, List.length_take, List.length_drop]; omega)) only [hs2, ↓aPre, aPost, oneW, allOne, retV, retVA, simprocAttr]
      refine end_of rfl ?_
      simp -dsimp -implicitDefEqProofs (disch := first | omega | (simp only [List.length_append, List.length_cons, List.length_nil, List.length_take, List.length_drop]; omega)) only [hs2, Nat.add_assoc, ↓aPre, aPost, oneW, allOne, retV, retVA, simprocAttr]
end Go.Proofs.YtihgplkfikpgbaaDoor
namespace Go.Proofs.YtihgplkfikpgbaaDoor
open Go.Eng Go.RowKit
theorem ms_get {i : Nat} (hi : i < 104) : (msL 104).getD i 0 = if i < 64 then (i : Int) else 64 * ((i : Int) - 63) := by
  simp [msL, List.getD, List.getElem?_map, hi]
theorem cn_len (bl : Bool) : (clN bl).length ≤ 100000 := by cases bl <;> decide +kernel
theorem rlen_m (l : List Int) (hl : l.length ≤ 100000) (hB : Bytes l) (p : Nat) (n : Nat) (bl : Bool) (most : Int) (hn : n ≤ 2000) (hmo : (n : Int) ≤ most) (hA : At (bt l) p (lB bl n)) (hp : p + (lB bl n).length ≤ 8 * l.length) : GivM Tryd.prog 43 [.d coD, .ptr 2000000 0, .d (.c (.int .i64 most)), .d (.c (.bool bl))] [(2000000, .box [.sl 1000000 1 0 l.length, .d (.c (.int .i64 (p : Nat))), .d (.c (.bool false))]), (1000000, .row 1 (li .u8 l))] (.tup [.d (.c (.int .i64 n)), .d (.c (.int .i64 0))]) [(2000000, .box [.sl 1000000 1 0 l.length, .d (.c (.int .i64 ((p + (lB bl n).length) : Nat))), .d (.c (.bool false))]), (1000000, .row 1 (li .u8 l))] := by
  have hbg := book_giv bl
  obtain ⟨B, hBe⟩ : ∃ B, B = bkC bl := ⟨_, rfl⟩
  have hw : ∀ (i : Nat), i < 104 → ∀ q, At (bt l) q (wd bl i) → q + (wd bl i).length ≤ 8 * l.length → GivM Tryd.prog 59 [.d (.ref B), .ptr 2000000 0] [(2000000, .box [.sl 1000000 1 0 l.length, .d (.c (.int .i64 (q : Nat))), .d (.c (.bool false))]), (1000000, .row 1 (li .u8 l))] (.tup [.d (.c (.int .i64 (if i < 64 then (i : Int) else 64 * ((i : Int) - 63)))), .d (.c (.int .i64 0))]) [(2000000, .box [.sl 1000000 1 0 l.length, .d (.c (.int .i64 ((q + (wd bl i).length) : Nat))), .d (.c (.bool false))]), (1000000, .row 1 (li .u8 l))] := fun i hi q hq hq2 => by
    have := bread_m (clN bl) (msL 104) (clW bl) (by rw [cl_len]; decide) (by rw [cl_len, ms_len]) (cn_len bl) (i := i) (by rw [cl_len]; exact hi) l hl hB q (L := wd bl i) rfl (by
      have := allRd_get (cl_rd bl) (j := i) (by rw [cl_len]; exact hi)
      rwa [Nat.zero_add] at this) hq hq2
    rw [← bk_is, ← hBe, ms_get hi] at this
    exact this
  rw [← hBe] at hbg
  unfold lB at hA hp ⊢
  rw [Int.toNat_natCast] at hA hp ⊢
  obtain ⟨A1, A2⟩ := hA.app
  rw [List.length_append] at hp ⊢
  unfold coD at hbg ⊢
  by_cases c : n < 64
  · have h64 : ¬ (64 : Int) ≤ (n : Int) := by omega
    have hmod : n % 64 = n := Nat.mod_eq_of_lt c
    rw [if_neg h64, List.length_nil, Nat.zero_add, hmod] at hp ⊢
    rw [if_neg h64, List.length_nil, Nat.add_zero, hmod] at A2
    have hfin := hw n (by omega) p A2 hp
    rw [if_pos c] at hfin
    have hlt : (n : Int) < 64 := by omega
    have hng : ¬ (n : Int) > most := by omega
    refine GivM.of mixed c43 (Nat.le_of_ble_eq_true rfl) rfl rfl ?_
    simp -dsimp -implicitDefEqProofs (disch := first | omega | (simp only [List.length_append, List.length_cons, List.length_nil, List.length_take, List.length_drop]; omega)) only [a43, ↓aPre, aPost, oneW, allOne, retV, retVA, simprocAttr]
    refine loop_of (fun s => s.tm 0 = .d (.ref [.ref (bkC false), .ref (bkC true), .ref mdC]) ∧ s.tm 1 = .ptr 2000000 0 ∧ s.tm 2 = .d (.c (.int .i64 most)) ∧ s.tm 3 = .d (.c (.bool bl)) ∧ s.tm 10 = .d (.c (.int .i64 0)) ∧ s.hp 2000000 = some (.box [.sl 1000000 1 0 l.length, .d (.c (.int .i64 (p : Nat))), .d (.c (.bool false))]) ∧ s.hp 1000000 = some (.row 1 (li .u8 l))) (fun s => 0) ?_ ?_
    · simp -dsimp -implicitDefEqProofs (disch := first | omega | (simp only [List.length_append, List.length_cons, List.length_nil, List.length_take, List.length_drop]; omega)) only [↓aPre, aPost, oneW, allOne, retV, retVA, simprocAttr]
    rintro s hs
    simp -dsimp -implicitDefEqProofs (disch := first | omega | (simp only [List.length_append, List.length_cons, List.length_nil, List.length_take, List.length_drop]; omega)) only [hs, ↓aPre, aPost, oneW, allOne, retV, retVA, simprocAttr]
    refine call_giv hbg ?_
    simp -dsimp -implicitDefEqProofs (disch := first | omega | (simp only [List.length_append, List.length_cons, List.length_nil, List.length_take, List.length_drop]; omega)) only [hs, ↓aPre, aPost, oneW, allOne, retV, retVA, simprocAttr]
    refine call_mut hfin [] rfl rfl ?_ ?_
    · simp -dsimp -implicitDefEqProofs (disch := first | omega | (simp only [List.length_append, List.length_cons, List.length_nil, List.length_take, List.length_drop]; omega)) only [hs, ↓aPre, aPost, oneW, allOne, retV, retVA, simprocAttr]
    simp -dsimp -implicitDefEqProofs (disch := first | omega | (simp only [List.length_append, List.length_cons, List.length_nil, List.length_take, List.length_drop]; omega)) only [hs, ibne_f, hlt, hng, ↓aPre, aPost, oneW, allOne, retV, retVA, simprocAttr]
    refine end_of rfl ?_
    simp -dsimp -implicitDefEqProofs (disch := first | omega | (simp only [List.length_append, List.length_cons, List.length_nil, List.length_take, List.length_drop]; omega)) only [hs, ↓aPre, aPost, oneW, allOne, retV, retVA, simprocAttr]
  · have h64 : (64 : Int) ≤ (n : Int) := by omega
    rw [if_pos h64] at A1 A2 hp ⊢
    obtain ⟨q, hq⟩ : ∃ q, q = n / 64 := ⟨_, rfl⟩
    obtain ⟨r, hr⟩ : ∃ r, r = n % 64 := ⟨_, rfl⟩
    rw [← hq] at A1 A2 hp ⊢
    rw [← hr] at A2 hp ⊢
    have hfst := hw (63 + q) (by omega) p A1 (by omega)
    have hfin := hw r (by omega) _ A2 (by omega)
    rw [if_neg (by omega)] at hfst
    rw [if_pos (by omega)] at hfin
    obtain ⟨u, hu⟩ : ∃ u, u = (wd bl (63 + q)).length := ⟨_, rfl⟩
    rw [← hu] at hfst hfin hp ⊢
    obtain ⟨v, hv⟩ : ∃ v, v = (wd bl r).length := ⟨_, rfl⟩
    rw [← hv] at hfin hp ⊢
    have hu1 : 0 < u := by
      have := (wd_ok bl (i := 63 + q) (by omega)).2.1
      rw [hu]
      cases hc : wd bl (63 + q) with
      | nil => exact absurd hc this
      | cons x l => simp
    obtain ⟨y, hy⟩ : ∃ y : Int, y = 64 * (((63 + q : Nat) : Int) - 63) := ⟨_, rfl⟩
    rw [← hy] at hfst
    have hy2 : y = 64 * (q : Int) := by omega
    have hng : ¬ y > most := by omega
    have hnl : ¬ y < 64 := by omega
    have hsum : y + (r : Int) = (n : Int) := by omega
    have hng2 : ¬ (n : Int) > most := by omega
    have hlt : (r : Int) < 64 := by omega
    refine GivM.of mixed c43 (Nat.le_of_ble_eq_true rfl) rfl rfl ?_
    simp -dsimp -implicitDefEqProofs (disch := first | omega | (simp only [List.length_append, List.length_cons, List.length_nil, List.length_take, List.length_drop]; omega)) only [a43, ↓aPre, aPost, oneW, allOne, retV, retVA, simprocAttr]
    refine loop_of (fun s => ∃ b : Bool, s.tm 0 = .d (.ref [.ref (bkC false), .ref (bkC true), .ref mdC]) ∧ s.tm 1 = .ptr 2000000 0 ∧ s.tm 2 = .d (.c (.int .i64 most)) ∧ s.tm 3 = .d (.c (.bool bl)) ∧ s.tm 10 = .d (.c (.int .i64 (if b then y else 0))) ∧ s.hp 2000000 = some (.box [.sl 1000000 1 0 l.length, .d (.c (.int .i64 ((if b then p + u else p) : Nat))), .d (.c (.bool false))]) ∧ s.hp 1000000 = some (.row 1 (li .u8 l))) (fun s => 1000000 - (bxN (s.hp 2000000) 1).toNat) ?_ ?_
    · refine ⟨false, ?_⟩
      simp -dsimp -implicitDefEqProofs (disch := first | omega | (simp only [List.length_append, List.length_cons, List.length_nil, List.length_take, List.length_drop]; omega)) only [↓aPre, aPost, oneW, allOne, retV, retVA, simprocAttr]
    rintro s ⟨b, hs⟩
    cases b
    · have hs2 := hs
      simp only [Bool.false_eq_true, if_false] at hs2
      have hav : (bxN (s.hp 2000000) 1).toNat = p := by
        rw [hs2.2.2.2.2.2.1]
        rfl
      simp -dsimp -implicitDefEqProofs (disch := first | omega | (simp only [List.length_append, List.length_cons, List.length_nil, List.length_take, List.length_drop]; omega)) only [hs2, ↓aPre, aPost, oneW, allOne, retV, retVA, simprocAttr]
      refine call_giv hbg ?_
      simp -dsimp -implicitDefEqProofs (disch := first | omega | (simp only [List.length_append, List.length_cons, List.length_nil, List.length_take, List.length_drop]; omega)) only [hs2, ↓aPre, aPost, oneW, allOne, retV, retVA, simprocAttr]
      refine call_mut hfst [] rfl rfl ?_ ?_
      · simp -dsimp -implicitDefEqProofs (disch := first | omega | (simp only [List.length_append, List.length_cons, List.length_nil, List.length_take, List.length_drop]; omega)) only [hs2, ↓aPre, aPost, oneW, allOne, retV, retVA, simprocAttr]
      simp -dsimp -implicitDefEqProofs (disch := first | omega | (simp only [List.length_append, List.length_cons, List.length_nil, List.length_take, List.length_drop]; omega)) only [hs2, ibne_f, hng, hnl, ↓aPre, aPost, oneW, allOne, retV, retVA, simprocAttr]
      refine round_of ⟨true, ?_⟩ ?_
      · simp -dsimp -implicitDefEqProofs (disch := first | omega | (simp only [List.length_append, List.length_cons, List.length_nil, List.length_take, List.length_drop]; omega)) only [hs2, ↓aPre, aPost, oneW, allOne, retV, retVA, simprocAttr]
      · simp -dsimp -implicitDefEqProofs (disch := first | omega | (simp only [List.length_append, List.length_cons, List.length_nil, List.length_take, List.length_drop]; omega)) only [hs2, bxN_b, ↓aPre, aPost, oneW, allOne, retV, retVA, simprocAttr]
        omega
    · have hs2 := hs
      simp only [if_true] at hs2
      simp -dsimp -implicitDefEqProofs (disch := first | omega | (simp only [List.length_append, List.length_cons, List.length_nil, List.length_take, List.length_drop]; omega)) only [hs2, ↓aPre, aPost, oneW, allOne, retV, retVA, simprocAttr]
      refine call_giv hbg ?_
      simp -dsimp -implicitDefEqProofs (disch := first | omega | (simp only [List.length_append, List.length_cons, List.length_nil, List.length_take, List.length_drop]; omega)) only [hs2, ↓aPre, aPost, oneW, allOne, retV, retVA, simprocAttr]
      refine call_mut hfin [] rfl rfl ?_ ?_
      · simp -dsimp -implicitDefEqProofs (disch := first | omega | (simp only [List.length_append, List.length_cons, List.length_nil, List.length_take, List.length_drop]; omega)) only [hs2, ↓aPre, aPost, oneW, allOne, retV, retVA, simprocAttr]
      simp -dsimp -implicitDefEqProofs (disch := first | omega | (simp only [List.length_append, List.length_cons, List.length_nil, List.length_take, List.length_drop]; omega)) only [hs2, ibne_f, hsum, hlt, hng2, ↓aPre, aPost, oneW, allOne, retV, retVA, simprocAttr]
      refine end_of rfl ?_
      simp -dsimp -implicitDefEqProofs (disch := first | omega | (simp only [List.length_append, List.length_cons, List.length_nil, List.length_take, List.length_drop]; omega)) only [hs2, Nat.add_assoc, ↓aPre, aPost, oneW, allOne, retV, retVA, simprocAttr]
end Go.Proofs.YtihgplkfikpgbaaDoor
namespace Go.Proofs.YtihgplkfikpgbaaDoor
open Go.Eng Go.RowKit
theorem md_get : ∀ i : Fin 10, mdL.getD i.val 0 = (i.val : Int) - 3 := by decide
theorem mn_len : mdN.length ≤ 100000 := by decide +kernel
theorem rmode_m (l : List Int) (hl : l.length ≤ 100000) (hB : Bytes l) (p : Nat) (d : Int) (hd : -3 ≤ d ∧ d ≤ 5) (hA : At (bt l) p (mW d)) (hp : p + (mW d).length ≤ 8 * l.length) : GivM Tryd.prog 47 [.d coD, .ptr 2000000 0] [(2000000, .box [.sl 1000000 1 0 l.length, .d (.c (.int .i64 (p : Nat))), .d (.c (.bool false))]), (1000000, .row 1 (li .u8 l))] (.tup [.d (.c (.int .i64 d)), .d (.c (.int .i64 0))]) [(2000000, .box [.sl 1000000 1 0 l.length, .d (.c (.int .i64 ((p + (mW d).length) : Nat))), .d (.c (.bool false))]), (1000000, .row 1 (li .u8 l))] := by
  have hi : (d + 3).toNat < 10 := by omega
  have hr := bread2_m mdN mdL mdW (by rw [md_len]; decide) (by rw [md_len]; decide) mn_len (i := (d + 3).toNat) (by rw [md_len]; exact hi) l hl hB p (L := mW d) rfl (by
    have := allRd_get md_rd (j := (d + 3).toNat) (by rw [md_len]; exact hi)
    rwa [Nat.zero_add] at this) hA hp
  have e : mdL.getD (d + 3).toNat 0 = d := by
    rw [md_get ⟨_, hi⟩]
    show (((d + 3).toNat : Nat) : Int) - 3 = d
    omega
  rw [← md_is, e] at hr
  have hne : ¬ d = 6 := by omega
  unfold coD
  refine GivM.of mixed c47 (Nat.le_of_ble_eq_true rfl) rfl rfl ?_
  simp -dsimp -implicitDefEqProofs (disch := first | omega | (simp only [List.length_append, List.length_cons, List.length_nil, List.length_take, List.length_drop]; omega)) only [a47, ↓aPre, aPost, oneW, allOne, retV, retVA, simprocAttr]
  refine call_mut hr [] rfl rfl ?_ ?_
  · simp -dsimp -implicitDefEqProofs (disch := first | omega | (simp only [List.length_append, List.length_cons, List.length_nil, List.length_take, List.length_drop]; omega)) only [↓aPre, aPost, oneW, allOne, retV, retVA, simprocAttr]
  simp -dsimp -implicitDefEqProofs (disch := first | omega | (simp only [List.length_append, List.length_cons, List.length_nil, List.length_take, List.length_drop]; omega)) only [ibne_f, ibeq_f hne, ↓aPre, aPost, oneW, allOne, retV, retVA, simprocAttr]
  refine end_of rfl ?_
  simp -dsimp -implicitDefEqProofs (disch := first | omega | (simp only [List.length_append, List.length_cons, List.length_nil, List.length_take, List.length_drop]; omega)) only [↓aPre, aPost, oneW, allOne, retV, retVA, simprocAttr]
end Go.Proofs.YtihgplkfikpgbaaDoor
